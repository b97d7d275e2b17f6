/-
  NARROWER THAN 'FOR EVERY INPUT', by the rows' own cells (each row's printed sentence says how): WalDrops: laid · WalNil: laid · ManifestOwn: laid · ManifestCrash: laid · ManifestFull: laid · ManifestNil: laid · ManifestSweeps: laid · LsmRefuses: laid · LsmOwn: laid · LsmOpens: laid · LsmNil: laid.
  DERIVED. THE GIVEN ROWS OF THIS SEAT. 11 by the template 'for every input the law returns true; each argument reads behind the call as it read before'; 0 by the template 'total and deterministic' (their statements: YtjnolpfmchnnmaaGreatDoorTotals.lean).
  GIVEN WITH THE SEED: the statements are not yours to turn. If you find one false, say at which input.
  Laid BY PROGRAM, IN A SANDBOX (cutbox-rows.mjs): the forced cells as the released guide's own fill.sh prints them over the translation ed0373e55cf601f1… (all of the seat's roots in one cut). By AI agents, Wed Nov 11 2026. No macro, syntax, notation, axiom, sorry.
-/
import Derived.Test.YtjnolpfmchnnmaaGreatDoorChecked
import GoSem.Claim
import GoSem.ClaimJoined
import GoSem.ClaimMapViews
import Derived.JoinedTies
import Derived.KernelRfl
namespace Go.Proofs.YtjnolpfmchnnmaaGreatDoor
/- THE CELL 'sum', in the pinned program and in every row, IS THE sha256 OF THE DUMP (.gsa) THAT YtjnolpfmchnnmaaGreatDoorProg.lean LOADS. Nothing in Lean hashes anything: it is a label: what it is worth is what the hold of that sum in a sandbox is worth. -/
noncomputable def Tryz.pinned : Pinned := { name := "ytjnolpfmchnnmaagreatdoor", sum := "ed0373e55cf601f1b6a196db6c91489079ba23c9da8ab97932f5be26867d2fa6", checked := Tryz.checked }
namespace Rows
def none {H : Type} : Left H := { results := [], args := [] }

/- WHAT THE LISTED PACKAGE-LEVEL VARIABLES READ AS WHEN THE CALL BEGINS. Each datum BY PROGRAM (the guide's laid-datum.mjs) off the statement by which the dump's own 'gosem.cut.vars' lays the variable. In a bare row this is a premise. The card (YtjnolpfmchnnmaaGreatDoorCards.lean) ties it to the program's text. -/
def laid_math_bits_deBruijn32tab {H : Type} : DataW H := .agg [.lit (.int .u8 0), .lit (.int .u8 1), .lit (.int .u8 28), .lit (.int .u8 2), .lit (.int .u8 29), .lit (.int .u8 14), .lit (.int .u8 24), .lit (.int .u8 3), .lit (.int .u8 30), .lit (.int .u8 22), .lit (.int .u8 20), .lit (.int .u8 15), .lit (.int .u8 25), .lit (.int .u8 17), .lit (.int .u8 4), .lit (.int .u8 8), .lit (.int .u8 31), .lit (.int .u8 27), .lit (.int .u8 13), .lit (.int .u8 23), .lit (.int .u8 21), .lit (.int .u8 19), .lit (.int .u8 16), .lit (.int .u8 7), .lit (.int .u8 26), .lit (.int .u8 12), .lit (.int .u8 18), .lit (.int .u8 6), .lit (.int .u8 11), .lit (.int .u8 5), .lit (.int .u8 10), .lit (.int .u8 9)]
def laid_math_bits_deBruijn64tab {H : Type} : DataW H := .agg [.lit (.int .u8 0), .lit (.int .u8 1), .lit (.int .u8 56), .lit (.int .u8 2), .lit (.int .u8 57), .lit (.int .u8 49), .lit (.int .u8 28), .lit (.int .u8 3), .lit (.int .u8 61), .lit (.int .u8 58), .lit (.int .u8 42), .lit (.int .u8 50), .lit (.int .u8 38), .lit (.int .u8 29), .lit (.int .u8 17), .lit (.int .u8 4), .lit (.int .u8 62), .lit (.int .u8 47), .lit (.int .u8 59), .lit (.int .u8 36), .lit (.int .u8 45), .lit (.int .u8 43), .lit (.int .u8 51), .lit (.int .u8 22), .lit (.int .u8 53), .lit (.int .u8 39), .lit (.int .u8 33), .lit (.int .u8 30), .lit (.int .u8 24), .lit (.int .u8 18), .lit (.int .u8 12), .lit (.int .u8 5), .lit (.int .u8 63), .lit (.int .u8 55), .lit (.int .u8 48), .lit (.int .u8 27), .lit (.int .u8 60), .lit (.int .u8 41), .lit (.int .u8 37), .lit (.int .u8 16), .lit (.int .u8 46), .lit (.int .u8 35), .lit (.int .u8 44), .lit (.int .u8 21), .lit (.int .u8 52), .lit (.int .u8 32), .lit (.int .u8 23), .lit (.int .u8 11), .lit (.int .u8 54), .lit (.int .u8 26), .lit (.int .u8 40), .lit (.int .u8 15), .lit (.int .u8 34), .lit (.int .u8 20), .lit (.int .u8 31), .lit (.int .u8 10), .lit (.int .u8 25), .lit (.int .u8 14), .lit (.int .u8 19), .lit (.int .u8 9), .lit (.int .u8 13), .lit (.int .u8 8), .lit (.int .u8 7), .lit (.int .u8 6)]
def laid_internal_strconv_uint64pow10 {H : Type} : DataW H := .agg [.lit (.int .u64 1), .lit (.int .u64 10), .lit (.int .u64 100), .lit (.int .u64 1000), .lit (.int .u64 10000), .lit (.int .u64 100000), .lit (.int .u64 1000000), .lit (.int .u64 10000000), .lit (.int .u64 100000000), .lit (.int .u64 1000000000), .lit (.int .u64 10000000000), .lit (.int .u64 100000000000), .lit (.int .u64 1000000000000), .lit (.int .u64 10000000000000), .lit (.int .u64 100000000000000), .lit (.int .u64 1000000000000000), .lit (.int .u64 10000000000000000), .lit (.int .u64 100000000000000000), .lit (.int .u64 1000000000000000000), .lit (.int .u64 10000000000000000000)]
def laid_strconv_ErrRange {H : Type} : DataW H := .iface "*errors.errorString" (.ptr (.agg [.lit (.string [118, 97, 108, 117, 101, 32, 111, 117, 116, 32, 111, 102, 32, 114, 97, 110, 103, 101])]))
def laid_strconv_ErrSyntax {H : Type} : DataW H := .iface "*errors.errorString" (.ptr (.agg [.lit (.string [105, 110, 118, 97, 108, 105, 100, 32, 115, 121, 110, 116, 97, 120])]))

/-- 'usancelaw08.WalDrops': WHATEVER THE INPUT: true; the input reads as it did. -/
def walDropsSpec : ChangeSpec := { name := "walDrops", fn := fun _ => fun
  | [d1, d2, d3] => { results := [.lit (.bool true)], args := [d1, d2, d3] }
  | _ => none }
def walDropsRow : OpenClaim := { program := "ytjnolpfmchnnmaagreatdoor", sum := "ed0373e55cf601f1b6a196db6c91489079ba23c9da8ab97932f5be26867d2fa6", func := "usance/usancelaw08.WalDrops", spec := "walDrops", unfollowed := true, recurses := true, named := ["strconv.ErrSyntax", "strconv.ErrRange", "internal/strconv.uint64pow10", "math/bits.deBruijn32tab", "math/bits.deBruijn64tab"], plainKeys := false, apart := false, laid := [("math/bits.deBruijn32tab", laid_math_bits_deBruijn32tab), ("math/bits.deBruijn64tab", laid_math_bits_deBruijn64tab), ("internal/strconv.uint64pow10", laid_internal_strconv_uint64pow10), ("strconv.ErrRange", laid_strconv_ErrRange), ("strconv.ErrSyntax", laid_strconv_ErrSyntax)] }
def WalDropsSaid : Prop := walDropsRow.holds Tryz.pinned (OpenSpec.ofChange walDropsSpec)

/-- ITS FALSE NEIGHBOUR: 'it returns false'. Refute it at one input. -/
def walDropsWrong : ChangeSpec := { name := "walDrops", fn := fun _ => fun
  | [d1, d2, d3] => { results := [.lit (.bool false)], args := [d1, d2, d3] }
  | _ => none }
def WalDropsWrongFalsely : Prop := walDropsRow.holds Tryz.pinned (OpenSpec.ofChange walDropsWrong)

/-- 'usancelaw08.WalNil': WHATEVER THE INPUT: true; the input reads as it did. -/
def walNilSpec : ChangeSpec := { name := "walNil", fn := fun _ => fun
  | [d1, d2] => { results := [.lit (.bool true)], args := [d1, d2] }
  | _ => none }
def walNilRow : OpenClaim := { program := "ytjnolpfmchnnmaagreatdoor", sum := "ed0373e55cf601f1b6a196db6c91489079ba23c9da8ab97932f5be26867d2fa6", func := "usance/usancelaw08.WalNil", spec := "walNil", unfollowed := true, recurses := true, named := ["strconv.ErrSyntax", "strconv.ErrRange", "internal/strconv.uint64pow10", "math/bits.deBruijn32tab", "math/bits.deBruijn64tab"], plainKeys := false, apart := false, laid := [("math/bits.deBruijn32tab", laid_math_bits_deBruijn32tab), ("math/bits.deBruijn64tab", laid_math_bits_deBruijn64tab), ("internal/strconv.uint64pow10", laid_internal_strconv_uint64pow10), ("strconv.ErrRange", laid_strconv_ErrRange), ("strconv.ErrSyntax", laid_strconv_ErrSyntax)] }
def WalNilSaid : Prop := walNilRow.holds Tryz.pinned (OpenSpec.ofChange walNilSpec)

/-- ITS FALSE NEIGHBOUR: 'it returns false'. Refute it at one input. -/
def walNilWrong : ChangeSpec := { name := "walNil", fn := fun _ => fun
  | [d1, d2] => { results := [.lit (.bool false)], args := [d1, d2] }
  | _ => none }
def WalNilWrongFalsely : Prop := walNilRow.holds Tryz.pinned (OpenSpec.ofChange walNilWrong)

/-- 'usancelaw13.ManifestOwn': WHATEVER THE INPUT: true; the input reads as it did. -/
def manifestOwnSpec : ChangeSpec := { name := "manifestOwn", fn := fun _ => fun
  | [d1, d2] => { results := [.lit (.bool true)], args := [d1, d2] }
  | _ => none }
def manifestOwnRow : OpenClaim := { program := "ytjnolpfmchnnmaagreatdoor", sum := "ed0373e55cf601f1b6a196db6c91489079ba23c9da8ab97932f5be26867d2fa6", func := "usance/usancelaw13.ManifestOwn", spec := "manifestOwn", inPlace := ["internal/bytealg.Compare"], unfollowed := true, recurses := true, named := ["strconv.ErrSyntax", "strconv.ErrRange", "internal/strconv.uint64pow10", "math/bits.deBruijn32tab", "math/bits.deBruijn64tab"], plainKeys := false, apart := false, laid := [("math/bits.deBruijn32tab", laid_math_bits_deBruijn32tab), ("math/bits.deBruijn64tab", laid_math_bits_deBruijn64tab), ("internal/strconv.uint64pow10", laid_internal_strconv_uint64pow10), ("strconv.ErrRange", laid_strconv_ErrRange), ("strconv.ErrSyntax", laid_strconv_ErrSyntax)] }
def ManifestOwnSaid : Prop := manifestOwnRow.holds Tryz.pinned (OpenSpec.ofChange manifestOwnSpec)

/-- ITS FALSE NEIGHBOUR: 'it returns false'. Refute it at one input. -/
def manifestOwnWrong : ChangeSpec := { name := "manifestOwn", fn := fun _ => fun
  | [d1, d2] => { results := [.lit (.bool false)], args := [d1, d2] }
  | _ => none }
def ManifestOwnWrongFalsely : Prop := manifestOwnRow.holds Tryz.pinned (OpenSpec.ofChange manifestOwnWrong)

/-- 'usancelaw13.ManifestCrash': WHATEVER THE INPUT: true; the input reads as it did. -/
def manifestCrashSpec : ChangeSpec := { name := "manifestCrash", fn := fun _ => fun
  | [d1, d2] => { results := [.lit (.bool true)], args := [d1, d2] }
  | _ => none }
def manifestCrashRow : OpenClaim := { program := "ytjnolpfmchnnmaagreatdoor", sum := "ed0373e55cf601f1b6a196db6c91489079ba23c9da8ab97932f5be26867d2fa6", func := "usance/usancelaw13.ManifestCrash", spec := "manifestCrash", inPlace := ["internal/bytealg.Compare"], unfollowed := true, recurses := true, named := ["strconv.ErrSyntax", "strconv.ErrRange", "internal/strconv.uint64pow10", "math/bits.deBruijn32tab", "math/bits.deBruijn64tab"], plainKeys := false, apart := false, laid := [("math/bits.deBruijn32tab", laid_math_bits_deBruijn32tab), ("math/bits.deBruijn64tab", laid_math_bits_deBruijn64tab), ("internal/strconv.uint64pow10", laid_internal_strconv_uint64pow10), ("strconv.ErrRange", laid_strconv_ErrRange), ("strconv.ErrSyntax", laid_strconv_ErrSyntax)] }
def ManifestCrashSaid : Prop := manifestCrashRow.holds Tryz.pinned (OpenSpec.ofChange manifestCrashSpec)

/-- ITS FALSE NEIGHBOUR: 'it returns false'. Refute it at one input. -/
def manifestCrashWrong : ChangeSpec := { name := "manifestCrash", fn := fun _ => fun
  | [d1, d2] => { results := [.lit (.bool false)], args := [d1, d2] }
  | _ => none }
def ManifestCrashWrongFalsely : Prop := manifestCrashRow.holds Tryz.pinned (OpenSpec.ofChange manifestCrashWrong)

/-- 'usancelaw13.ManifestFull': WHATEVER THE INPUT: true; the input reads as it did. -/
def manifestFullSpec : ChangeSpec := { name := "manifestFull", fn := fun _ => fun
  | [d1, d2] => { results := [.lit (.bool true)], args := [d1, d2] }
  | _ => none }
def manifestFullRow : OpenClaim := { program := "ytjnolpfmchnnmaagreatdoor", sum := "ed0373e55cf601f1b6a196db6c91489079ba23c9da8ab97932f5be26867d2fa6", func := "usance/usancelaw13.ManifestFull", spec := "manifestFull", inPlace := ["internal/bytealg.Compare"], unfollowed := true, recurses := true, named := ["strconv.ErrSyntax", "strconv.ErrRange", "internal/strconv.uint64pow10", "math/bits.deBruijn32tab", "math/bits.deBruijn64tab"], plainKeys := false, apart := false, laid := [("math/bits.deBruijn32tab", laid_math_bits_deBruijn32tab), ("math/bits.deBruijn64tab", laid_math_bits_deBruijn64tab), ("internal/strconv.uint64pow10", laid_internal_strconv_uint64pow10), ("strconv.ErrRange", laid_strconv_ErrRange), ("strconv.ErrSyntax", laid_strconv_ErrSyntax)] }
def ManifestFullSaid : Prop := manifestFullRow.holds Tryz.pinned (OpenSpec.ofChange manifestFullSpec)

/-- ITS FALSE NEIGHBOUR: 'it returns false'. Refute it at one input. -/
def manifestFullWrong : ChangeSpec := { name := "manifestFull", fn := fun _ => fun
  | [d1, d2] => { results := [.lit (.bool false)], args := [d1, d2] }
  | _ => none }
def ManifestFullWrongFalsely : Prop := manifestFullRow.holds Tryz.pinned (OpenSpec.ofChange manifestFullWrong)

/-- 'usancelaw13.ManifestNil': WHATEVER THE INPUT: true; the input reads as it did. -/
def manifestNilSpec : ChangeSpec := { name := "manifestNil", fn := fun _ => fun
  | [d] => { results := [.lit (.bool true)], args := [d] }
  | _ => none }
def manifestNilRow : OpenClaim := { program := "ytjnolpfmchnnmaagreatdoor", sum := "ed0373e55cf601f1b6a196db6c91489079ba23c9da8ab97932f5be26867d2fa6", func := "usance/usancelaw13.ManifestNil", spec := "manifestNil", inPlace := ["internal/bytealg.Compare"], unfollowed := true, recurses := true, named := ["internal/strconv.uint64pow10", "math/bits.deBruijn32tab", "math/bits.deBruijn64tab", "strconv.ErrSyntax", "strconv.ErrRange"], plainKeys := false, apart := false, laid := [("math/bits.deBruijn32tab", laid_math_bits_deBruijn32tab), ("math/bits.deBruijn64tab", laid_math_bits_deBruijn64tab), ("internal/strconv.uint64pow10", laid_internal_strconv_uint64pow10), ("strconv.ErrRange", laid_strconv_ErrRange), ("strconv.ErrSyntax", laid_strconv_ErrSyntax)] }
def ManifestNilSaid : Prop := manifestNilRow.holds Tryz.pinned (OpenSpec.ofChange manifestNilSpec)

/-- ITS FALSE NEIGHBOUR: 'it returns false'. Refute it at one input. -/
def manifestNilWrong : ChangeSpec := { name := "manifestNil", fn := fun _ => fun
  | [d] => { results := [.lit (.bool false)], args := [d] }
  | _ => none }
def ManifestNilWrongFalsely : Prop := manifestNilRow.holds Tryz.pinned (OpenSpec.ofChange manifestNilWrong)

/-- 'usancelaw13.ManifestSweeps': WHATEVER THE INPUT: true; the input reads as it did. -/
def manifestSweepsSpec : ChangeSpec := { name := "manifestSweeps", fn := fun _ => fun
  | [d1, d2, d3] => { results := [.lit (.bool true)], args := [d1, d2, d3] }
  | _ => none }
def manifestSweepsRow : OpenClaim := { program := "ytjnolpfmchnnmaagreatdoor", sum := "ed0373e55cf601f1b6a196db6c91489079ba23c9da8ab97932f5be26867d2fa6", func := "usance/usancelaw13.ManifestSweeps", spec := "manifestSweeps", inPlace := ["internal/bytealg.Compare"], unfollowed := true, recurses := true, named := ["strconv.ErrSyntax", "strconv.ErrRange", "internal/strconv.uint64pow10", "math/bits.deBruijn32tab", "math/bits.deBruijn64tab"], plainKeys := false, apart := false, laid := [("math/bits.deBruijn32tab", laid_math_bits_deBruijn32tab), ("math/bits.deBruijn64tab", laid_math_bits_deBruijn64tab), ("internal/strconv.uint64pow10", laid_internal_strconv_uint64pow10), ("strconv.ErrRange", laid_strconv_ErrRange), ("strconv.ErrSyntax", laid_strconv_ErrSyntax)] }
def ManifestSweepsSaid : Prop := manifestSweepsRow.holds Tryz.pinned (OpenSpec.ofChange manifestSweepsSpec)

/-- ITS FALSE NEIGHBOUR: 'it returns false'. Refute it at one input. -/
def manifestSweepsWrong : ChangeSpec := { name := "manifestSweeps", fn := fun _ => fun
  | [d1, d2, d3] => { results := [.lit (.bool false)], args := [d1, d2, d3] }
  | _ => none }
def ManifestSweepsWrongFalsely : Prop := manifestSweepsRow.holds Tryz.pinned (OpenSpec.ofChange manifestSweepsWrong)

/-- 'usancelaw15.LsmRefuses': WHATEVER THE INPUT: true; the input reads as it did. -/
def lsmRefusesSpec : ChangeSpec := { name := "lsmRefuses", fn := fun _ => fun
  | [d1, d2] => { results := [.lit (.bool true)], args := [d1, d2] }
  | _ => none }
def lsmRefusesRow : OpenClaim := { program := "ytjnolpfmchnnmaagreatdoor", sum := "ed0373e55cf601f1b6a196db6c91489079ba23c9da8ab97932f5be26867d2fa6", func := "usance/usancelaw15.LsmRefuses", spec := "lsmRefuses", inPlace := ["internal/bytealg.Compare"], unfollowed := true, recurses := true, named := ["strconv.ErrSyntax", "strconv.ErrRange", "internal/strconv.uint64pow10", "math/bits.deBruijn32tab", "math/bits.deBruijn64tab"], plainKeys := false, apart := false, laid := [("math/bits.deBruijn32tab", laid_math_bits_deBruijn32tab), ("math/bits.deBruijn64tab", laid_math_bits_deBruijn64tab), ("internal/strconv.uint64pow10", laid_internal_strconv_uint64pow10), ("strconv.ErrRange", laid_strconv_ErrRange), ("strconv.ErrSyntax", laid_strconv_ErrSyntax)] }
def LsmRefusesSaid : Prop := lsmRefusesRow.holds Tryz.pinned (OpenSpec.ofChange lsmRefusesSpec)

/-- ITS FALSE NEIGHBOUR: 'it returns false'. Refute it at one input. -/
def lsmRefusesWrong : ChangeSpec := { name := "lsmRefuses", fn := fun _ => fun
  | [d1, d2] => { results := [.lit (.bool false)], args := [d1, d2] }
  | _ => none }
def LsmRefusesWrongFalsely : Prop := lsmRefusesRow.holds Tryz.pinned (OpenSpec.ofChange lsmRefusesWrong)

/-- 'usancelaw15.LsmOwn': WHATEVER THE INPUT: true; the input reads as it did. -/
def lsmOwnSpec : ChangeSpec := { name := "lsmOwn", fn := fun _ => fun
  | [d1, d2, d3] => { results := [.lit (.bool true)], args := [d1, d2, d3] }
  | _ => none }
def lsmOwnRow : OpenClaim := { program := "ytjnolpfmchnnmaagreatdoor", sum := "ed0373e55cf601f1b6a196db6c91489079ba23c9da8ab97932f5be26867d2fa6", func := "usance/usancelaw15.LsmOwn", spec := "lsmOwn", inPlace := ["internal/bytealg.Compare"], unfollowed := true, recurses := true, named := ["strconv.ErrSyntax", "strconv.ErrRange", "internal/strconv.uint64pow10", "math/bits.deBruijn32tab", "math/bits.deBruijn64tab"], plainKeys := false, apart := false, laid := [("math/bits.deBruijn32tab", laid_math_bits_deBruijn32tab), ("math/bits.deBruijn64tab", laid_math_bits_deBruijn64tab), ("internal/strconv.uint64pow10", laid_internal_strconv_uint64pow10), ("strconv.ErrRange", laid_strconv_ErrRange), ("strconv.ErrSyntax", laid_strconv_ErrSyntax)] }
def LsmOwnSaid : Prop := lsmOwnRow.holds Tryz.pinned (OpenSpec.ofChange lsmOwnSpec)

/-- ITS FALSE NEIGHBOUR: 'it returns false'. Refute it at one input. -/
def lsmOwnWrong : ChangeSpec := { name := "lsmOwn", fn := fun _ => fun
  | [d1, d2, d3] => { results := [.lit (.bool false)], args := [d1, d2, d3] }
  | _ => none }
def LsmOwnWrongFalsely : Prop := lsmOwnRow.holds Tryz.pinned (OpenSpec.ofChange lsmOwnWrong)

/-- 'usancelaw15.LsmOpens': WHATEVER THE INPUT: true; the input reads as it did. -/
def lsmOpensSpec : ChangeSpec := { name := "lsmOpens", fn := fun _ => fun
  | [d] => { results := [.lit (.bool true)], args := [d] }
  | _ => none }
def lsmOpensRow : OpenClaim := { program := "ytjnolpfmchnnmaagreatdoor", sum := "ed0373e55cf601f1b6a196db6c91489079ba23c9da8ab97932f5be26867d2fa6", func := "usance/usancelaw15.LsmOpens", spec := "lsmOpens", inPlace := ["internal/bytealg.Compare"], unfollowed := true, recurses := true, named := ["strconv.ErrSyntax", "strconv.ErrRange", "internal/strconv.uint64pow10", "math/bits.deBruijn32tab", "math/bits.deBruijn64tab"], plainKeys := false, apart := false, laid := [("math/bits.deBruijn32tab", laid_math_bits_deBruijn32tab), ("math/bits.deBruijn64tab", laid_math_bits_deBruijn64tab), ("internal/strconv.uint64pow10", laid_internal_strconv_uint64pow10), ("strconv.ErrRange", laid_strconv_ErrRange), ("strconv.ErrSyntax", laid_strconv_ErrSyntax)] }
def LsmOpensSaid : Prop := lsmOpensRow.holds Tryz.pinned (OpenSpec.ofChange lsmOpensSpec)

/-- ITS FALSE NEIGHBOUR: 'it returns false'. Refute it at one input. -/
def lsmOpensWrong : ChangeSpec := { name := "lsmOpens", fn := fun _ => fun
  | [d] => { results := [.lit (.bool false)], args := [d] }
  | _ => none }
def LsmOpensWrongFalsely : Prop := lsmOpensRow.holds Tryz.pinned (OpenSpec.ofChange lsmOpensWrong)

/-- 'usancelaw15.LsmNil': WHATEVER THE INPUT: true; the input reads as it did. -/
def lsmNilSpec : ChangeSpec := { name := "lsmNil", fn := fun _ => fun
  | [d1, d2] => { results := [.lit (.bool true)], args := [d1, d2] }
  | _ => none }
def lsmNilRow : OpenClaim := { program := "ytjnolpfmchnnmaagreatdoor", sum := "ed0373e55cf601f1b6a196db6c91489079ba23c9da8ab97932f5be26867d2fa6", func := "usance/usancelaw15.LsmNil", spec := "lsmNil", inPlace := ["internal/bytealg.Compare"], unfollowed := true, recurses := true, named := ["internal/strconv.uint64pow10", "math/bits.deBruijn32tab", "math/bits.deBruijn64tab", "strconv.ErrSyntax", "strconv.ErrRange"], plainKeys := false, apart := false, laid := [("math/bits.deBruijn32tab", laid_math_bits_deBruijn32tab), ("math/bits.deBruijn64tab", laid_math_bits_deBruijn64tab), ("internal/strconv.uint64pow10", laid_internal_strconv_uint64pow10), ("strconv.ErrRange", laid_strconv_ErrRange), ("strconv.ErrSyntax", laid_strconv_ErrSyntax)] }
def LsmNilSaid : Prop := lsmNilRow.holds Tryz.pinned (OpenSpec.ofChange lsmNilSpec)

/-- ITS FALSE NEIGHBOUR: 'it returns false'. Refute it at one input. -/
def lsmNilWrong : ChangeSpec := { name := "lsmNil", fn := fun _ => fun
  | [d1, d2] => { results := [.lit (.bool false)], args := [d1, d2] }
  | _ => none }
def LsmNilWrongFalsely : Prop := lsmNilRow.holds Tryz.pinned (OpenSpec.ofChange lsmNilWrong)

/- THE SECOND FORM. 'bulk': how many values and letters a reading holds, each counted each time it is reached (what is shared counts as often as it is met; a slice's spare places count too). A statement '..UptoSaid' is the law's where the arguments, and the package variables that the reading takes, are together of bulk at most 1048576: NARROWER than '..Said'. Prove '..Said' where nothing that the law and all that it calls make is longer than what came in: it says more and counts as full. Else prove '..UptoSaid'. A law counts once. -/
mutual
def uptoBulk {H : Type} : DataW H → Nat
  | .lit (.string bytes) => bytes.length + 1
  | .lit _ => 1
  | .nil => 1
  | .ptr d => uptoBulk d + 1
  | .slice elems spare => uptoBulkAll elems + uptoBulkAll spare + 1
  | .agg parts => uptoBulkAll parts + 1
  | .iface _ d => uptoBulk d + 1
  | .map entries => uptoBulkEntries entries + 1
  | .held _ => 1
def uptoBulkAll {H : Type} : List (DataW H) → Nat
  | [] => 0
  | d :: r => uptoBulk d + uptoBulkAll r
def uptoBulkEntries {H : Type} : List (Lit × DataW H) → Nat
  | [] => 0
  | x :: r => uptoBulkEntry x + uptoBulkEntries r
def uptoBulkEntry {H : Type} : Lit × DataW H → Nat
  | (.string bytes, d) => bytes.length + uptoBulk d + 1
  | (_, d) => uptoBulk d + 1
 end
def uptoSmall : (H : Type) → List (DataW H) → Bool := fun _ ds => decide (uptoBulkAll ds ≤ 1048576)
def OpenSpec.upto (s : _root_.Go.ChangeSpec) : _root_.Go.OpenSpec := { _root_.Go.OpenSpec.ofChange s with cond := some uptoSmall }

/-- 'usancelaw08.WalDrops', WHERE WHAT IT READS IS OF BULK AT MOST 1048576: true; the input reads as it did. -/
def walDropsUptoRow : OpenClaim := { program := "ytjnolpfmchnnmaagreatdoor", sum := "ed0373e55cf601f1b6a196db6c91489079ba23c9da8ab97932f5be26867d2fa6", func := "usance/usancelaw08.WalDrops", spec := "walDrops", unfollowed := true, recurses := true, named := ["strconv.ErrSyntax", "strconv.ErrRange", "internal/strconv.uint64pow10", "math/bits.deBruijn32tab", "math/bits.deBruijn64tab"], plainKeys := false, apart := false, laid := [("math/bits.deBruijn32tab", laid_math_bits_deBruijn32tab), ("math/bits.deBruijn64tab", laid_math_bits_deBruijn64tab), ("internal/strconv.uint64pow10", laid_internal_strconv_uint64pow10), ("strconv.ErrRange", laid_strconv_ErrRange), ("strconv.ErrSyntax", laid_strconv_ErrSyntax)], narrowed := true }
def WalDropsUptoSaid : Prop := walDropsUptoRow.holds Tryz.pinned (OpenSpec.upto walDropsSpec)

/-- 'usancelaw08.WalNil', WHERE WHAT IT READS IS OF BULK AT MOST 1048576: true; the input reads as it did. -/
def walNilUptoRow : OpenClaim := { program := "ytjnolpfmchnnmaagreatdoor", sum := "ed0373e55cf601f1b6a196db6c91489079ba23c9da8ab97932f5be26867d2fa6", func := "usance/usancelaw08.WalNil", spec := "walNil", unfollowed := true, recurses := true, named := ["strconv.ErrSyntax", "strconv.ErrRange", "internal/strconv.uint64pow10", "math/bits.deBruijn32tab", "math/bits.deBruijn64tab"], plainKeys := false, apart := false, laid := [("math/bits.deBruijn32tab", laid_math_bits_deBruijn32tab), ("math/bits.deBruijn64tab", laid_math_bits_deBruijn64tab), ("internal/strconv.uint64pow10", laid_internal_strconv_uint64pow10), ("strconv.ErrRange", laid_strconv_ErrRange), ("strconv.ErrSyntax", laid_strconv_ErrSyntax)], narrowed := true }
def WalNilUptoSaid : Prop := walNilUptoRow.holds Tryz.pinned (OpenSpec.upto walNilSpec)

/-- 'usancelaw13.ManifestOwn', WHERE WHAT IT READS IS OF BULK AT MOST 1048576: true; the input reads as it did. -/
def manifestOwnUptoRow : OpenClaim := { program := "ytjnolpfmchnnmaagreatdoor", sum := "ed0373e55cf601f1b6a196db6c91489079ba23c9da8ab97932f5be26867d2fa6", func := "usance/usancelaw13.ManifestOwn", spec := "manifestOwn", inPlace := ["internal/bytealg.Compare"], unfollowed := true, recurses := true, named := ["strconv.ErrSyntax", "strconv.ErrRange", "internal/strconv.uint64pow10", "math/bits.deBruijn32tab", "math/bits.deBruijn64tab"], plainKeys := false, apart := false, laid := [("math/bits.deBruijn32tab", laid_math_bits_deBruijn32tab), ("math/bits.deBruijn64tab", laid_math_bits_deBruijn64tab), ("internal/strconv.uint64pow10", laid_internal_strconv_uint64pow10), ("strconv.ErrRange", laid_strconv_ErrRange), ("strconv.ErrSyntax", laid_strconv_ErrSyntax)], narrowed := true }
def ManifestOwnUptoSaid : Prop := manifestOwnUptoRow.holds Tryz.pinned (OpenSpec.upto manifestOwnSpec)

/-- 'usancelaw13.ManifestCrash', WHERE WHAT IT READS IS OF BULK AT MOST 1048576: true; the input reads as it did. -/
def manifestCrashUptoRow : OpenClaim := { program := "ytjnolpfmchnnmaagreatdoor", sum := "ed0373e55cf601f1b6a196db6c91489079ba23c9da8ab97932f5be26867d2fa6", func := "usance/usancelaw13.ManifestCrash", spec := "manifestCrash", inPlace := ["internal/bytealg.Compare"], unfollowed := true, recurses := true, named := ["strconv.ErrSyntax", "strconv.ErrRange", "internal/strconv.uint64pow10", "math/bits.deBruijn32tab", "math/bits.deBruijn64tab"], plainKeys := false, apart := false, laid := [("math/bits.deBruijn32tab", laid_math_bits_deBruijn32tab), ("math/bits.deBruijn64tab", laid_math_bits_deBruijn64tab), ("internal/strconv.uint64pow10", laid_internal_strconv_uint64pow10), ("strconv.ErrRange", laid_strconv_ErrRange), ("strconv.ErrSyntax", laid_strconv_ErrSyntax)], narrowed := true }
def ManifestCrashUptoSaid : Prop := manifestCrashUptoRow.holds Tryz.pinned (OpenSpec.upto manifestCrashSpec)

/-- 'usancelaw13.ManifestFull', WHERE WHAT IT READS IS OF BULK AT MOST 1048576: true; the input reads as it did. -/
def manifestFullUptoRow : OpenClaim := { program := "ytjnolpfmchnnmaagreatdoor", sum := "ed0373e55cf601f1b6a196db6c91489079ba23c9da8ab97932f5be26867d2fa6", func := "usance/usancelaw13.ManifestFull", spec := "manifestFull", inPlace := ["internal/bytealg.Compare"], unfollowed := true, recurses := true, named := ["strconv.ErrSyntax", "strconv.ErrRange", "internal/strconv.uint64pow10", "math/bits.deBruijn32tab", "math/bits.deBruijn64tab"], plainKeys := false, apart := false, laid := [("math/bits.deBruijn32tab", laid_math_bits_deBruijn32tab), ("math/bits.deBruijn64tab", laid_math_bits_deBruijn64tab), ("internal/strconv.uint64pow10", laid_internal_strconv_uint64pow10), ("strconv.ErrRange", laid_strconv_ErrRange), ("strconv.ErrSyntax", laid_strconv_ErrSyntax)], narrowed := true }
def ManifestFullUptoSaid : Prop := manifestFullUptoRow.holds Tryz.pinned (OpenSpec.upto manifestFullSpec)

/-- 'usancelaw13.ManifestNil', WHERE WHAT IT READS IS OF BULK AT MOST 1048576: true; the input reads as it did. -/
def manifestNilUptoRow : OpenClaim := { program := "ytjnolpfmchnnmaagreatdoor", sum := "ed0373e55cf601f1b6a196db6c91489079ba23c9da8ab97932f5be26867d2fa6", func := "usance/usancelaw13.ManifestNil", spec := "manifestNil", inPlace := ["internal/bytealg.Compare"], unfollowed := true, recurses := true, named := ["internal/strconv.uint64pow10", "math/bits.deBruijn32tab", "math/bits.deBruijn64tab", "strconv.ErrSyntax", "strconv.ErrRange"], plainKeys := false, apart := false, laid := [("math/bits.deBruijn32tab", laid_math_bits_deBruijn32tab), ("math/bits.deBruijn64tab", laid_math_bits_deBruijn64tab), ("internal/strconv.uint64pow10", laid_internal_strconv_uint64pow10), ("strconv.ErrRange", laid_strconv_ErrRange), ("strconv.ErrSyntax", laid_strconv_ErrSyntax)], narrowed := true }
def ManifestNilUptoSaid : Prop := manifestNilUptoRow.holds Tryz.pinned (OpenSpec.upto manifestNilSpec)

/-- 'usancelaw13.ManifestSweeps', WHERE WHAT IT READS IS OF BULK AT MOST 1048576: true; the input reads as it did. -/
def manifestSweepsUptoRow : OpenClaim := { program := "ytjnolpfmchnnmaagreatdoor", sum := "ed0373e55cf601f1b6a196db6c91489079ba23c9da8ab97932f5be26867d2fa6", func := "usance/usancelaw13.ManifestSweeps", spec := "manifestSweeps", inPlace := ["internal/bytealg.Compare"], unfollowed := true, recurses := true, named := ["strconv.ErrSyntax", "strconv.ErrRange", "internal/strconv.uint64pow10", "math/bits.deBruijn32tab", "math/bits.deBruijn64tab"], plainKeys := false, apart := false, laid := [("math/bits.deBruijn32tab", laid_math_bits_deBruijn32tab), ("math/bits.deBruijn64tab", laid_math_bits_deBruijn64tab), ("internal/strconv.uint64pow10", laid_internal_strconv_uint64pow10), ("strconv.ErrRange", laid_strconv_ErrRange), ("strconv.ErrSyntax", laid_strconv_ErrSyntax)], narrowed := true }
def ManifestSweepsUptoSaid : Prop := manifestSweepsUptoRow.holds Tryz.pinned (OpenSpec.upto manifestSweepsSpec)

/-- 'usancelaw15.LsmRefuses', WHERE WHAT IT READS IS OF BULK AT MOST 1048576: true; the input reads as it did. -/
def lsmRefusesUptoRow : OpenClaim := { program := "ytjnolpfmchnnmaagreatdoor", sum := "ed0373e55cf601f1b6a196db6c91489079ba23c9da8ab97932f5be26867d2fa6", func := "usance/usancelaw15.LsmRefuses", spec := "lsmRefuses", inPlace := ["internal/bytealg.Compare"], unfollowed := true, recurses := true, named := ["strconv.ErrSyntax", "strconv.ErrRange", "internal/strconv.uint64pow10", "math/bits.deBruijn32tab", "math/bits.deBruijn64tab"], plainKeys := false, apart := false, laid := [("math/bits.deBruijn32tab", laid_math_bits_deBruijn32tab), ("math/bits.deBruijn64tab", laid_math_bits_deBruijn64tab), ("internal/strconv.uint64pow10", laid_internal_strconv_uint64pow10), ("strconv.ErrRange", laid_strconv_ErrRange), ("strconv.ErrSyntax", laid_strconv_ErrSyntax)], narrowed := true }
def LsmRefusesUptoSaid : Prop := lsmRefusesUptoRow.holds Tryz.pinned (OpenSpec.upto lsmRefusesSpec)

/-- 'usancelaw15.LsmOwn', WHERE WHAT IT READS IS OF BULK AT MOST 1048576: true; the input reads as it did. -/
def lsmOwnUptoRow : OpenClaim := { program := "ytjnolpfmchnnmaagreatdoor", sum := "ed0373e55cf601f1b6a196db6c91489079ba23c9da8ab97932f5be26867d2fa6", func := "usance/usancelaw15.LsmOwn", spec := "lsmOwn", inPlace := ["internal/bytealg.Compare"], unfollowed := true, recurses := true, named := ["strconv.ErrSyntax", "strconv.ErrRange", "internal/strconv.uint64pow10", "math/bits.deBruijn32tab", "math/bits.deBruijn64tab"], plainKeys := false, apart := false, laid := [("math/bits.deBruijn32tab", laid_math_bits_deBruijn32tab), ("math/bits.deBruijn64tab", laid_math_bits_deBruijn64tab), ("internal/strconv.uint64pow10", laid_internal_strconv_uint64pow10), ("strconv.ErrRange", laid_strconv_ErrRange), ("strconv.ErrSyntax", laid_strconv_ErrSyntax)], narrowed := true }
def LsmOwnUptoSaid : Prop := lsmOwnUptoRow.holds Tryz.pinned (OpenSpec.upto lsmOwnSpec)

/-- 'usancelaw15.LsmOpens', WHERE WHAT IT READS IS OF BULK AT MOST 1048576: true; the input reads as it did. -/
def lsmOpensUptoRow : OpenClaim := { program := "ytjnolpfmchnnmaagreatdoor", sum := "ed0373e55cf601f1b6a196db6c91489079ba23c9da8ab97932f5be26867d2fa6", func := "usance/usancelaw15.LsmOpens", spec := "lsmOpens", inPlace := ["internal/bytealg.Compare"], unfollowed := true, recurses := true, named := ["strconv.ErrSyntax", "strconv.ErrRange", "internal/strconv.uint64pow10", "math/bits.deBruijn32tab", "math/bits.deBruijn64tab"], plainKeys := false, apart := false, laid := [("math/bits.deBruijn32tab", laid_math_bits_deBruijn32tab), ("math/bits.deBruijn64tab", laid_math_bits_deBruijn64tab), ("internal/strconv.uint64pow10", laid_internal_strconv_uint64pow10), ("strconv.ErrRange", laid_strconv_ErrRange), ("strconv.ErrSyntax", laid_strconv_ErrSyntax)], narrowed := true }
def LsmOpensUptoSaid : Prop := lsmOpensUptoRow.holds Tryz.pinned (OpenSpec.upto lsmOpensSpec)

/-- 'usancelaw15.LsmNil', WHERE WHAT IT READS IS OF BULK AT MOST 1048576: true; the input reads as it did. -/
def lsmNilUptoRow : OpenClaim := { program := "ytjnolpfmchnnmaagreatdoor", sum := "ed0373e55cf601f1b6a196db6c91489079ba23c9da8ab97932f5be26867d2fa6", func := "usance/usancelaw15.LsmNil", spec := "lsmNil", inPlace := ["internal/bytealg.Compare"], unfollowed := true, recurses := true, named := ["internal/strconv.uint64pow10", "math/bits.deBruijn32tab", "math/bits.deBruijn64tab", "strconv.ErrSyntax", "strconv.ErrRange"], plainKeys := false, apart := false, laid := [("math/bits.deBruijn32tab", laid_math_bits_deBruijn32tab), ("math/bits.deBruijn64tab", laid_math_bits_deBruijn64tab), ("internal/strconv.uint64pow10", laid_internal_strconv_uint64pow10), ("strconv.ErrRange", laid_strconv_ErrRange), ("strconv.ErrSyntax", laid_strconv_ErrSyntax)], narrowed := true }
def LsmNilUptoSaid : Prop := lsmNilUptoRow.holds Tryz.pinned (OpenSpec.upto lsmNilSpec)

end Rows
end Go.Proofs.YtjnolpfmchnnmaaGreatDoor
