/-
  No cell of these rows narrows 'for every input' (looked for: loops, veiled, ifaces, maps, wideKeys, modest, calm, conditions, laid).
  DERIVED. THE GIVEN ROWS OF THIS SEAT. 3 by the template 'for every input the law returns true; each argument reads behind the call as it read before'; 0 by the template 'total and deterministic' (their statements: YtiffgjodbcploaaGreatTotals.lean).
  GIVEN WITH THE SEED: the statements are not yours to turn. If you find one false, say at which input.
  Laid BY PROGRAM, IN A SANDBOX (cutbox-rows.mjs): the forced cells as the released guide's own fill.sh prints them over the translation b56d026c3a790f27… (all of the seat's roots in one cut). By AI agents, Wed Nov 11 2026. No macro, syntax, notation, axiom, sorry.
-/
import Derived.Test.YtiffgjodbcploaaGreatChecked
import GoSem.Claim
import GoSem.ClaimJoined
import GoSem.ClaimMapViews
import Derived.JoinedTies
import Derived.KernelRfl
namespace Go.Proofs.YtiffgjodbcploaaGreat
/- THE CELL 'sum', in the pinned program and in every row, IS THE sha256 OF THE DUMP (.gsa) THAT YtiffgjodbcploaaGreatProg.lean LOADS. Nothing in Lean hashes anything: it is a label: what it is worth is what the hold of that sum in a sandbox is worth. -/
noncomputable def Tryz.pinned : Pinned := { name := "ytiffgjodbcploaagreat", sum := "b56d026c3a790f27b2b2104fc5f7ffdb89579e00978f6529848f2c1195b1699a", checked := Tryz.checked }
namespace Rows
def none {H : Type} : Left H := { results := [], args := [] }

/-- 'usancelaw10.TableWrites': WHATEVER THE INPUT: true; the input reads as it did. -/
def tableWritesSpec : ChangeSpec := { name := "tableWrites", fn := fun _ => fun
  | [d1, d2, d3] => { results := [.lit (.bool true)], args := [d1, d2, d3] }
  | _ => none }
def tableWritesRow : OpenClaim := { program := "ytiffgjodbcploaagreat", sum := "b56d026c3a790f27b2b2104fc5f7ffdb89579e00978f6529848f2c1195b1699a", func := "usance/usancelaw10.TableWrites", spec := "tableWrites", inPlace := ["internal/bytealg.Compare"], unfollowed := true, recurses := true, plainKeys := false, apart := false }
def TableWritesSaid : Prop := tableWritesRow.holds Tryz.pinned (OpenSpec.ofChange tableWritesSpec)

/-- ITS FALSE NEIGHBOUR: 'it returns false'. Refute it at one input. -/
def tableWritesWrong : ChangeSpec := { name := "tableWrites", fn := fun _ => fun
  | [d1, d2, d3] => { results := [.lit (.bool false)], args := [d1, d2, d3] }
  | _ => none }
def TableWritesWrongFalsely : Prop := tableWritesRow.holds Tryz.pinned (OpenSpec.ofChange tableWritesWrong)

/-- 'usancelaw10.TableTold': WHATEVER THE INPUT: true; the input reads as it did. -/
def tableToldSpec : ChangeSpec := { name := "tableTold", fn := fun _ => fun
  | [d1, d2, d3] => { results := [.lit (.bool true)], args := [d1, d2, d3] }
  | _ => none }
def tableToldRow : OpenClaim := { program := "ytiffgjodbcploaagreat", sum := "b56d026c3a790f27b2b2104fc5f7ffdb89579e00978f6529848f2c1195b1699a", func := "usance/usancelaw10.TableTold", spec := "tableTold", inPlace := ["internal/bytealg.Compare"], unfollowed := true, recurses := true, plainKeys := false, apart := false }
def TableToldSaid : Prop := tableToldRow.holds Tryz.pinned (OpenSpec.ofChange tableToldSpec)

/-- ITS FALSE NEIGHBOUR: 'it returns false'. Refute it at one input. -/
def tableToldWrong : ChangeSpec := { name := "tableTold", fn := fun _ => fun
  | [d1, d2, d3] => { results := [.lit (.bool false)], args := [d1, d2, d3] }
  | _ => none }
def TableToldWrongFalsely : Prop := tableToldRow.holds Tryz.pinned (OpenSpec.ofChange tableToldWrong)

/-- 'usancelaw10.TableCrash': WHATEVER THE INPUT: true; the input reads as it did. -/
def tableCrashSpec : ChangeSpec := { name := "tableCrash", fn := fun _ => fun
  | [d1, d2, d3] => { results := [.lit (.bool true)], args := [d1, d2, d3] }
  | _ => none }
def tableCrashRow : OpenClaim := { program := "ytiffgjodbcploaagreat", sum := "b56d026c3a790f27b2b2104fc5f7ffdb89579e00978f6529848f2c1195b1699a", func := "usance/usancelaw10.TableCrash", spec := "tableCrash", inPlace := ["internal/bytealg.Compare"], unfollowed := true, recurses := true, plainKeys := false, apart := false }
def TableCrashSaid : Prop := tableCrashRow.holds Tryz.pinned (OpenSpec.ofChange tableCrashSpec)

/-- ITS FALSE NEIGHBOUR: 'it returns false'. Refute it at one input. -/
def tableCrashWrong : ChangeSpec := { name := "tableCrash", fn := fun _ => fun
  | [d1, d2, d3] => { results := [.lit (.bool false)], args := [d1, d2, d3] }
  | _ => none }
def TableCrashWrongFalsely : Prop := tableCrashRow.holds Tryz.pinned (OpenSpec.ofChange tableCrashWrong)

/- THE SECOND FORM. 'bulk': how many values and letters a reading holds, each counted each time it is reached (what is shared counts as often as it is met; a slice's spare places count too). A statement '..UptoSaid' is the law's where the arguments, and the package variables that the reading takes, are together of bulk at most 1048576: NARROWER than '..Said'. Prove '..Said' where nothing that the law and all that it calls make is longer than what came in: it says more and counts as full. Else prove '..UptoSaid'. A law counts once. -/
mutual
def uptoBulk {H : Type} : DataW H → Nat
  | .lit (.string bytes) => bytes.length + 1
  | .lit _ => 1
  | .nil => 1
  | .ptr d => uptoBulk d + 1
  | .slice elems spare => uptoBulkAll elems + uptoBulkAll spare + 1
  | .agg parts => uptoBulkAll parts + 1
  | .iface _ d => uptoBulk d + 1
  | .map entries => uptoBulkEntries entries + 1
  | .held _ => 1
def uptoBulkAll {H : Type} : List (DataW H) → Nat
  | [] => 0
  | d :: r => uptoBulk d + uptoBulkAll r
def uptoBulkEntries {H : Type} : List (Lit × DataW H) → Nat
  | [] => 0
  | x :: r => uptoBulkEntry x + uptoBulkEntries r
def uptoBulkEntry {H : Type} : Lit × DataW H → Nat
  | (.string bytes, d) => bytes.length + uptoBulk d + 1
  | (_, d) => uptoBulk d + 1
 end
def uptoSmall : (H : Type) → List (DataW H) → Bool := fun _ ds => decide (uptoBulkAll ds ≤ 1048576)
def OpenSpec.upto (s : _root_.Go.ChangeSpec) : _root_.Go.OpenSpec := { _root_.Go.OpenSpec.ofChange s with cond := some uptoSmall }

/-- 'usancelaw10.TableWrites', WHERE WHAT IT READS IS OF BULK AT MOST 1048576: true; the input reads as it did. -/
def tableWritesUptoRow : OpenClaim := { program := "ytiffgjodbcploaagreat", sum := "b56d026c3a790f27b2b2104fc5f7ffdb89579e00978f6529848f2c1195b1699a", func := "usance/usancelaw10.TableWrites", spec := "tableWrites", inPlace := ["internal/bytealg.Compare"], unfollowed := true, recurses := true, plainKeys := false, apart := false, narrowed := true }
def TableWritesUptoSaid : Prop := tableWritesUptoRow.holds Tryz.pinned (OpenSpec.upto tableWritesSpec)

/-- 'usancelaw10.TableTold', WHERE WHAT IT READS IS OF BULK AT MOST 1048576: true; the input reads as it did. -/
def tableToldUptoRow : OpenClaim := { program := "ytiffgjodbcploaagreat", sum := "b56d026c3a790f27b2b2104fc5f7ffdb89579e00978f6529848f2c1195b1699a", func := "usance/usancelaw10.TableTold", spec := "tableTold", inPlace := ["internal/bytealg.Compare"], unfollowed := true, recurses := true, plainKeys := false, apart := false, narrowed := true }
def TableToldUptoSaid : Prop := tableToldUptoRow.holds Tryz.pinned (OpenSpec.upto tableToldSpec)

/-- 'usancelaw10.TableCrash', WHERE WHAT IT READS IS OF BULK AT MOST 1048576: true; the input reads as it did. -/
def tableCrashUptoRow : OpenClaim := { program := "ytiffgjodbcploaagreat", sum := "b56d026c3a790f27b2b2104fc5f7ffdb89579e00978f6529848f2c1195b1699a", func := "usance/usancelaw10.TableCrash", spec := "tableCrash", inPlace := ["internal/bytealg.Compare"], unfollowed := true, recurses := true, plainKeys := false, apart := false, narrowed := true }
def TableCrashUptoSaid : Prop := tableCrashUptoRow.holds Tryz.pinned (OpenSpec.upto tableCrashSpec)

end Rows
end Go.Proofs.YtiffgjodbcploaaGreat
