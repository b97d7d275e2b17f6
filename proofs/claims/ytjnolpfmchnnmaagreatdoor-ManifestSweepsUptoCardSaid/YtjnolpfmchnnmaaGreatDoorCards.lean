/-
  DERIVED. GIVEN WITH THE SEED: THE CARDS: each row of YtjnolpfmchnnmaaGreatDoorRows.lean that lists a variable, with what it lists TIED to the program's text (the seventh form; the later family's looks); each row that meets fmt, with fmt's text TOLD by the authors' own Lean function (tested against real Go, not proved from fmt's source: count such statements apart). THE CARD IS WHAT COUNTS. Prove the row's statement (the work); the ties are given (YtjnolpfmchnnmaaGreatDoorTie.lean); close each card by the builder's one call (the guide's Derived/Test/ToyasCard.lean, 'card_holds'). Laid BY PROGRAM, IN A SANDBOX (cutbox-door.mjs). By AI agents, Wed Nov 11 2026. No macro, syntax, notation, axiom, sorry.
-/
import Derived.Test.YtjnolpfmchnnmaaGreatDoorRows
import GoSem.ClaimSeven
namespace Go.Proofs.YtjnolpfmchnnmaaGreatDoor
namespace Rows

/-- THE TIED CARD OF 'usancelaw08.WalDrops'. -/
def walDropsCard : Claim7 := { stood := { row := walDropsRow, standIns := [], harness := (true, "81a8abf7d3d021dfb423c97d1062bc8b044c41759d23bad53a77be2b9b3efffe"), looks := true }, kinds := [], alts := [], laidByText := true, laidKinds := [.data, .data, .data, .sentinel, .sentinel], laidTests := true, laidLooks := .later }
def WalDropsCardSaid : Prop := Claim7.holds Tryz.pinned (.plain (OpenSpec.ofChange walDropsSpec)) walDropsCard

/-- THE TIED CARD OF 'usancelaw08.WalNil'. -/
def walNilCard : Claim7 := { stood := { row := walNilRow, standIns := [], harness := (true, "81a8abf7d3d021dfb423c97d1062bc8b044c41759d23bad53a77be2b9b3efffe"), looks := true }, kinds := [], alts := [], laidByText := true, laidKinds := [.data, .data, .data, .sentinel, .sentinel], laidTests := true, laidLooks := .later }
def WalNilCardSaid : Prop := Claim7.holds Tryz.pinned (.plain (OpenSpec.ofChange walNilSpec)) walNilCard

/-- THE TIED CARD OF 'usancelaw13.ManifestOwn'. -/
def manifestOwnCard : Claim7 := { stood := { row := manifestOwnRow, standIns := [], harness := (true, "81a8abf7d3d021dfb423c97d1062bc8b044c41759d23bad53a77be2b9b3efffe"), looks := true }, kinds := [], alts := [], laidByText := true, laidKinds := [.data, .data, .data, .sentinel, .sentinel], laidTests := true, laidLooks := .later }
def ManifestOwnCardSaid : Prop := Claim7.holds Tryz.pinned (.plain (OpenSpec.ofChange manifestOwnSpec)) manifestOwnCard

/-- THE TIED CARD OF 'usancelaw13.ManifestCrash'. -/
def manifestCrashCard : Claim7 := { stood := { row := manifestCrashRow, standIns := [], harness := (true, "81a8abf7d3d021dfb423c97d1062bc8b044c41759d23bad53a77be2b9b3efffe"), looks := true }, kinds := [], alts := [], laidByText := true, laidKinds := [.data, .data, .data, .sentinel, .sentinel], laidTests := true, laidLooks := .later }
def ManifestCrashCardSaid : Prop := Claim7.holds Tryz.pinned (.plain (OpenSpec.ofChange manifestCrashSpec)) manifestCrashCard

/-- THE TIED CARD OF 'usancelaw13.ManifestFull'. -/
def manifestFullCard : Claim7 := { stood := { row := manifestFullRow, standIns := [], harness := (true, "81a8abf7d3d021dfb423c97d1062bc8b044c41759d23bad53a77be2b9b3efffe"), looks := true }, kinds := [], alts := [], laidByText := true, laidKinds := [.data, .data, .data, .sentinel, .sentinel], laidTests := true, laidLooks := .later }
def ManifestFullCardSaid : Prop := Claim7.holds Tryz.pinned (.plain (OpenSpec.ofChange manifestFullSpec)) manifestFullCard

/-- THE TIED CARD OF 'usancelaw13.ManifestNil'. -/
def manifestNilCard : Claim7 := { stood := { row := manifestNilRow, standIns := [], harness := (true, "81a8abf7d3d021dfb423c97d1062bc8b044c41759d23bad53a77be2b9b3efffe"), looks := true }, kinds := [], alts := [], laidByText := true, laidKinds := [.data, .data, .data, .sentinel, .sentinel], laidTests := true, laidLooks := .later }
def ManifestNilCardSaid : Prop := Claim7.holds Tryz.pinned (.plain (OpenSpec.ofChange manifestNilSpec)) manifestNilCard

/-- THE TIED CARD OF 'usancelaw13.ManifestSweeps'. -/
def manifestSweepsCard : Claim7 := { stood := { row := manifestSweepsRow, standIns := [], harness := (true, "81a8abf7d3d021dfb423c97d1062bc8b044c41759d23bad53a77be2b9b3efffe"), looks := true }, kinds := [], alts := [], laidByText := true, laidKinds := [.data, .data, .data, .sentinel, .sentinel], laidTests := true, laidLooks := .later }
def ManifestSweepsCardSaid : Prop := Claim7.holds Tryz.pinned (.plain (OpenSpec.ofChange manifestSweepsSpec)) manifestSweepsCard

/-- THE TIED CARD OF 'usancelaw15.LsmRefuses'. -/
def lsmRefusesCard : Claim7 := { stood := { row := lsmRefusesRow, standIns := [], harness := (true, "81a8abf7d3d021dfb423c97d1062bc8b044c41759d23bad53a77be2b9b3efffe"), looks := true }, kinds := [], alts := [], laidByText := true, laidKinds := [.data, .data, .data, .sentinel, .sentinel], laidTests := true, laidLooks := .later }
def LsmRefusesCardSaid : Prop := Claim7.holds Tryz.pinned (.plain (OpenSpec.ofChange lsmRefusesSpec)) lsmRefusesCard

/-- THE TIED CARD OF 'usancelaw15.LsmOwn'. -/
def lsmOwnCard : Claim7 := { stood := { row := lsmOwnRow, standIns := [], harness := (true, "81a8abf7d3d021dfb423c97d1062bc8b044c41759d23bad53a77be2b9b3efffe"), looks := true }, kinds := [], alts := [], laidByText := true, laidKinds := [.data, .data, .data, .sentinel, .sentinel], laidTests := true, laidLooks := .later }
def LsmOwnCardSaid : Prop := Claim7.holds Tryz.pinned (.plain (OpenSpec.ofChange lsmOwnSpec)) lsmOwnCard

/-- THE TIED CARD OF 'usancelaw15.LsmOpens'. -/
def lsmOpensCard : Claim7 := { stood := { row := lsmOpensRow, standIns := [], harness := (true, "81a8abf7d3d021dfb423c97d1062bc8b044c41759d23bad53a77be2b9b3efffe"), looks := true }, kinds := [], alts := [], laidByText := true, laidKinds := [.data, .data, .data, .sentinel, .sentinel], laidTests := true, laidLooks := .later }
def LsmOpensCardSaid : Prop := Claim7.holds Tryz.pinned (.plain (OpenSpec.ofChange lsmOpensSpec)) lsmOpensCard

/-- THE TIED CARD OF 'usancelaw15.LsmNil'. -/
def lsmNilCard : Claim7 := { stood := { row := lsmNilRow, standIns := [], harness := (true, "81a8abf7d3d021dfb423c97d1062bc8b044c41759d23bad53a77be2b9b3efffe"), looks := true }, kinds := [], alts := [], laidByText := true, laidKinds := [.data, .data, .data, .sentinel, .sentinel], laidTests := true, laidLooks := .later }
def LsmNilCardSaid : Prop := Claim7.holds Tryz.pinned (.plain (OpenSpec.ofChange lsmNilSpec)) lsmNilCard

/-- THE SECOND FORM's CARD OF 'usancelaw08.WalDrops'. -/
def walDropsUptoCard : Claim7 := { stood := { row := walDropsUptoRow, standIns := [], harness := (true, "81a8abf7d3d021dfb423c97d1062bc8b044c41759d23bad53a77be2b9b3efffe"), looks := true }, kinds := [], alts := [], laidByText := true, laidKinds := [.data, .data, .data, .sentinel, .sentinel], laidTests := true, laidLooks := .later }
def WalDropsUptoCardSaid : Prop := Claim7.holds Tryz.pinned (.plain (OpenSpec.upto walDropsSpec)) walDropsUptoCard

/-- THE SECOND FORM's CARD OF 'usancelaw08.WalNil'. -/
def walNilUptoCard : Claim7 := { stood := { row := walNilUptoRow, standIns := [], harness := (true, "81a8abf7d3d021dfb423c97d1062bc8b044c41759d23bad53a77be2b9b3efffe"), looks := true }, kinds := [], alts := [], laidByText := true, laidKinds := [.data, .data, .data, .sentinel, .sentinel], laidTests := true, laidLooks := .later }
def WalNilUptoCardSaid : Prop := Claim7.holds Tryz.pinned (.plain (OpenSpec.upto walNilSpec)) walNilUptoCard

/-- THE SECOND FORM's CARD OF 'usancelaw13.ManifestOwn'. -/
def manifestOwnUptoCard : Claim7 := { stood := { row := manifestOwnUptoRow, standIns := [], harness := (true, "81a8abf7d3d021dfb423c97d1062bc8b044c41759d23bad53a77be2b9b3efffe"), looks := true }, kinds := [], alts := [], laidByText := true, laidKinds := [.data, .data, .data, .sentinel, .sentinel], laidTests := true, laidLooks := .later }
def ManifestOwnUptoCardSaid : Prop := Claim7.holds Tryz.pinned (.plain (OpenSpec.upto manifestOwnSpec)) manifestOwnUptoCard

/-- THE SECOND FORM's CARD OF 'usancelaw13.ManifestCrash'. -/
def manifestCrashUptoCard : Claim7 := { stood := { row := manifestCrashUptoRow, standIns := [], harness := (true, "81a8abf7d3d021dfb423c97d1062bc8b044c41759d23bad53a77be2b9b3efffe"), looks := true }, kinds := [], alts := [], laidByText := true, laidKinds := [.data, .data, .data, .sentinel, .sentinel], laidTests := true, laidLooks := .later }
def ManifestCrashUptoCardSaid : Prop := Claim7.holds Tryz.pinned (.plain (OpenSpec.upto manifestCrashSpec)) manifestCrashUptoCard

/-- THE SECOND FORM's CARD OF 'usancelaw13.ManifestFull'. -/
def manifestFullUptoCard : Claim7 := { stood := { row := manifestFullUptoRow, standIns := [], harness := (true, "81a8abf7d3d021dfb423c97d1062bc8b044c41759d23bad53a77be2b9b3efffe"), looks := true }, kinds := [], alts := [], laidByText := true, laidKinds := [.data, .data, .data, .sentinel, .sentinel], laidTests := true, laidLooks := .later }
def ManifestFullUptoCardSaid : Prop := Claim7.holds Tryz.pinned (.plain (OpenSpec.upto manifestFullSpec)) manifestFullUptoCard

/-- THE SECOND FORM's CARD OF 'usancelaw13.ManifestNil'. -/
def manifestNilUptoCard : Claim7 := { stood := { row := manifestNilUptoRow, standIns := [], harness := (true, "81a8abf7d3d021dfb423c97d1062bc8b044c41759d23bad53a77be2b9b3efffe"), looks := true }, kinds := [], alts := [], laidByText := true, laidKinds := [.data, .data, .data, .sentinel, .sentinel], laidTests := true, laidLooks := .later }
def ManifestNilUptoCardSaid : Prop := Claim7.holds Tryz.pinned (.plain (OpenSpec.upto manifestNilSpec)) manifestNilUptoCard

/-- THE SECOND FORM's CARD OF 'usancelaw13.ManifestSweeps'. -/
def manifestSweepsUptoCard : Claim7 := { stood := { row := manifestSweepsUptoRow, standIns := [], harness := (true, "81a8abf7d3d021dfb423c97d1062bc8b044c41759d23bad53a77be2b9b3efffe"), looks := true }, kinds := [], alts := [], laidByText := true, laidKinds := [.data, .data, .data, .sentinel, .sentinel], laidTests := true, laidLooks := .later }
def ManifestSweepsUptoCardSaid : Prop := Claim7.holds Tryz.pinned (.plain (OpenSpec.upto manifestSweepsSpec)) manifestSweepsUptoCard

/-- THE SECOND FORM's CARD OF 'usancelaw15.LsmRefuses'. -/
def lsmRefusesUptoCard : Claim7 := { stood := { row := lsmRefusesUptoRow, standIns := [], harness := (true, "81a8abf7d3d021dfb423c97d1062bc8b044c41759d23bad53a77be2b9b3efffe"), looks := true }, kinds := [], alts := [], laidByText := true, laidKinds := [.data, .data, .data, .sentinel, .sentinel], laidTests := true, laidLooks := .later }
def LsmRefusesUptoCardSaid : Prop := Claim7.holds Tryz.pinned (.plain (OpenSpec.upto lsmRefusesSpec)) lsmRefusesUptoCard

/-- THE SECOND FORM's CARD OF 'usancelaw15.LsmOwn'. -/
def lsmOwnUptoCard : Claim7 := { stood := { row := lsmOwnUptoRow, standIns := [], harness := (true, "81a8abf7d3d021dfb423c97d1062bc8b044c41759d23bad53a77be2b9b3efffe"), looks := true }, kinds := [], alts := [], laidByText := true, laidKinds := [.data, .data, .data, .sentinel, .sentinel], laidTests := true, laidLooks := .later }
def LsmOwnUptoCardSaid : Prop := Claim7.holds Tryz.pinned (.plain (OpenSpec.upto lsmOwnSpec)) lsmOwnUptoCard

/-- THE SECOND FORM's CARD OF 'usancelaw15.LsmOpens'. -/
def lsmOpensUptoCard : Claim7 := { stood := { row := lsmOpensUptoRow, standIns := [], harness := (true, "81a8abf7d3d021dfb423c97d1062bc8b044c41759d23bad53a77be2b9b3efffe"), looks := true }, kinds := [], alts := [], laidByText := true, laidKinds := [.data, .data, .data, .sentinel, .sentinel], laidTests := true, laidLooks := .later }
def LsmOpensUptoCardSaid : Prop := Claim7.holds Tryz.pinned (.plain (OpenSpec.upto lsmOpensSpec)) lsmOpensUptoCard

/-- THE SECOND FORM's CARD OF 'usancelaw15.LsmNil'. -/
def lsmNilUptoCard : Claim7 := { stood := { row := lsmNilUptoRow, standIns := [], harness := (true, "81a8abf7d3d021dfb423c97d1062bc8b044c41759d23bad53a77be2b9b3efffe"), looks := true }, kinds := [], alts := [], laidByText := true, laidKinds := [.data, .data, .data, .sentinel, .sentinel], laidTests := true, laidLooks := .later }
def LsmNilUptoCardSaid : Prop := Claim7.holds Tryz.pinned (.plain (OpenSpec.upto lsmNilSpec)) lsmNilUptoCard
end Rows
end Go.Proofs.YtjnolpfmchnnmaaGreatDoor
