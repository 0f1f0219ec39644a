/-
  DERIVED. GIVEN WITH THE SEED: THE CARDS: each row of YtanbffihggdcaaaGreatDoorRows.lean that lists a variable, with what it lists TIED to the program's text (the seventh form; the later family's looks); each row that meets fmt, with fmt's text TOLD by the authors' own Lean function (tested against real Go, not proved from fmt's source: count such statements apart). THE CARD IS WHAT COUNTS. Prove the row's statement (the work); the ties are given (YtanbffihggdcaaaGreatDoorTie.lean); close each card by the builder's one call (the guide's Derived/Test/ToyasCard.lean, 'card_holds'). Laid BY PROGRAM, IN A SANDBOX (cutbox-door.mjs). By AI agents, Wed Nov 11 2026. No macro, syntax, notation, axiom, sorry.
-/
import Derived.Test.YtanbffihggdcaaaGreatDoorRows
import GoSem.ClaimSeven
namespace Go.Proofs.YtanbffihggdcaaaGreatDoor
namespace Rows

/-- THE TIED CARD OF 'treeringlaw15.FoldUses'. -/
def foldUsesCard : Claim7 := { stood := { row := foldUsesRow, standIns := [], harness := (true, "4ed6cfd83f238b954ea2672d2e67bad0c90cb5f8e1db1ed41617abf7d717921f"), looks := true }, kinds := [], alts := [], laidByText := true, laidKinds := [.data, .pinned], laidTests := true, laidLooks := .later }
def FoldUsesCardSaid : Prop := Claim7.holds Tryz.pinned (.plain (OpenSpec.ofChange foldUsesSpec)) foldUsesCard

/-- THE TIED CARD OF 'treeringlaw15.FoldIDs'. -/
def foldIDsCard : Claim7 := { stood := { row := foldIDsRow, standIns := [], harness := (true, "4ed6cfd83f238b954ea2672d2e67bad0c90cb5f8e1db1ed41617abf7d717921f"), looks := true }, kinds := [], alts := [], laidByText := true, laidKinds := [.data, .pinned], laidTests := true, laidLooks := .later }
def FoldIDsCardSaid : Prop := Claim7.holds Tryz.pinned (.plain (OpenSpec.ofChange foldIDsSpec)) foldIDsCard

/-- THE TIED CARD OF 'treeringlaw15.FoldPlays'. -/
def foldPlaysCard : Claim7 := { stood := { row := foldPlaysRow, standIns := [], harness := (true, "4ed6cfd83f238b954ea2672d2e67bad0c90cb5f8e1db1ed41617abf7d717921f"), looks := true }, kinds := [], alts := [], laidByText := true, laidKinds := [.data, .pinned], laidTests := true, laidLooks := .later }
def FoldPlaysCardSaid : Prop := Claim7.holds Tryz.pinned (.plain (OpenSpec.ofChange foldPlaysSpec)) foldPlaysCard

/-- THE TIED CARD OF 'treeringlaw15.FoldBuilds'. -/
def foldBuildsCard : Claim7 := { stood := { row := foldBuildsRow, standIns := [], harness := (true, "4ed6cfd83f238b954ea2672d2e67bad0c90cb5f8e1db1ed41617abf7d717921f"), looks := true }, kinds := [], alts := [], laidByText := true, laidKinds := [.data, .pinned], laidTests := true, laidLooks := .later }
def FoldBuildsCardSaid : Prop := Claim7.holds Tryz.pinned (.plain (OpenSpec.ofChange foldBuildsSpec)) foldBuildsCard

/-- THE TIED CARD OF 'treeringlaw21.VersionsAll'. -/
def versionsAllCard : Claim7 := { stood := { row := versionsAllRow, standIns := [], harness := (true, "4ed6cfd83f238b954ea2672d2e67bad0c90cb5f8e1db1ed41617abf7d717921f"), looks := true }, kinds := [], alts := [], laidByText := true, laidKinds := [.data, .pinned], laidTests := true, laidLooks := .later }
def VersionsAllCardSaid : Prop := Claim7.holds Tryz.pinned (.plain (OpenSpec.ofChange versionsAllSpec)) versionsAllCard

/-- THE TIED CARD OF 'treeringlaw21.VersionsKnown'. -/
def versionsKnownCard : Claim7 := { stood := { row := versionsKnownRow, standIns := [], harness := (true, "4ed6cfd83f238b954ea2672d2e67bad0c90cb5f8e1db1ed41617abf7d717921f"), looks := true }, kinds := [], alts := [], laidByText := true, laidKinds := [.data, .pinned], laidTests := true, laidLooks := .later }
def VersionsKnownCardSaid : Prop := Claim7.holds Tryz.pinned (.plain (OpenSpec.ofChange versionsKnownSpec)) versionsKnownCard

/-- THE TIED CARD OF 'treeringlaw20.HistShots'. -/
def histShotsCard : Claim7 := { stood := { row := histShotsRow, standIns := [], harness := (true, "4ed6cfd83f238b954ea2672d2e67bad0c90cb5f8e1db1ed41617abf7d717921f"), looks := true }, kinds := [], alts := [], laidByText := true, laidKinds := [.data, .pinned], laidTests := true, laidLooks := .later }
def HistShotsCardSaid : Prop := Claim7.holds Tryz.pinned (.plain (OpenSpec.ofChange histShotsSpec)) histShotsCard

/-- THE TIED CARD OF 'treeringlaw21.VersionsOf'. -/
def versionsOfCard : Claim7 := { stood := { row := versionsOfRow, standIns := [], harness := (true, "4ed6cfd83f238b954ea2672d2e67bad0c90cb5f8e1db1ed41617abf7d717921f"), looks := true }, kinds := [], alts := [], laidByText := true, laidKinds := [.data, .pinned], laidTests := true, laidLooks := .later }
def VersionsOfCardSaid : Prop := Claim7.holds Tryz.pinned (.plain (OpenSpec.ofChange versionsOfSpec)) versionsOfCard

/-- THE TIED CARD OF 'treeringlaw20.HistKeeps'. -/
def histKeepsCard : Claim7 := { stood := { row := histKeepsRow, standIns := [], harness := (true, "4ed6cfd83f238b954ea2672d2e67bad0c90cb5f8e1db1ed41617abf7d717921f"), looks := true }, kinds := [], alts := [], laidByText := true, laidKinds := [.data, .pinned], laidTests := true, laidLooks := .later }
def HistKeepsCardSaid : Prop := Claim7.holds Tryz.pinned (.plain (OpenSpec.ofChange histKeepsSpec)) histKeepsCard

/-- THE TIED CARD OF 'treeringlaw20.HistHands'. -/
def histHandsCard : Claim7 := { stood := { row := histHandsRow, standIns := [], harness := (true, "4ed6cfd83f238b954ea2672d2e67bad0c90cb5f8e1db1ed41617abf7d717921f"), looks := true }, kinds := [], alts := [], laidByText := true, laidKinds := [.data, .pinned], laidTests := true, laidLooks := .later }
def HistHandsCardSaid : Prop := Claim7.holds Tryz.pinned (.plain (OpenSpec.ofChange histHandsSpec)) histHandsCard

/-- THE TIED CARD OF 'treeringlaw20.HistPlays'. -/
def histPlaysCard : Claim7 := { stood := { row := histPlaysRow, standIns := [], harness := (true, "4ed6cfd83f238b954ea2672d2e67bad0c90cb5f8e1db1ed41617abf7d717921f"), looks := true }, kinds := [], alts := [], laidByText := true, laidKinds := [.data, .pinned], laidTests := true, laidLooks := .later }
def HistPlaysCardSaid : Prop := Claim7.holds Tryz.pinned (.plain (OpenSpec.ofChange histPlaysSpec)) histPlaysCard

/-- THE TIED CARD OF 'treeringlaw16.ShotReads'. -/
def shotReadsCard : Claim7 := { stood := { row := shotReadsRow, standIns := [], harness := (true, "4ed6cfd83f238b954ea2672d2e67bad0c90cb5f8e1db1ed41617abf7d717921f"), looks := true }, kinds := [], alts := [], laidByText := true, laidKinds := [.data, .pinned], laidTests := true, laidLooks := .later }
def ShotReadsCardSaid : Prop := Claim7.holds Tryz.pinned (.plain (OpenSpec.ofChange shotReadsSpec)) shotReadsCard

/-- THE TIED CARD OF 'treeringlaw22.DiffOf'. -/
def diffOfCard : Claim7 := { stood := { row := diffOfRow, standIns := [], harness := (true, "4ed6cfd83f238b954ea2672d2e67bad0c90cb5f8e1db1ed41617abf7d717921f"), looks := true }, kinds := [], alts := [], laidByText := true, laidKinds := [.data, .pinned], laidTests := true, laidLooks := .later }
def DiffOfCardSaid : Prop := Claim7.holds Tryz.pinned (.plain (OpenSpec.ofChange diffOfSpec)) diffOfCard

/-- THE SECOND FORM's CARD OF 'treeringlaw15.FoldUses'. -/
def foldUsesUptoCard : Claim7 := { stood := { row := foldUsesUptoRow, standIns := [], harness := (true, "4ed6cfd83f238b954ea2672d2e67bad0c90cb5f8e1db1ed41617abf7d717921f"), looks := true }, kinds := [], alts := [], laidByText := true, laidKinds := [.data, .pinned], laidTests := true, laidLooks := .later }
def FoldUsesUptoCardSaid : Prop := Claim7.holds Tryz.pinned (.plain (OpenSpec.upto foldUsesSpec)) foldUsesUptoCard

/-- THE SECOND FORM's CARD OF 'treeringlaw15.FoldIDs'. -/
def foldIDsUptoCard : Claim7 := { stood := { row := foldIDsUptoRow, standIns := [], harness := (true, "4ed6cfd83f238b954ea2672d2e67bad0c90cb5f8e1db1ed41617abf7d717921f"), looks := true }, kinds := [], alts := [], laidByText := true, laidKinds := [.data, .pinned], laidTests := true, laidLooks := .later }
def FoldIDsUptoCardSaid : Prop := Claim7.holds Tryz.pinned (.plain (OpenSpec.upto foldIDsSpec)) foldIDsUptoCard

/-- THE SECOND FORM's CARD OF 'treeringlaw15.FoldPlays'. -/
def foldPlaysUptoCard : Claim7 := { stood := { row := foldPlaysUptoRow, standIns := [], harness := (true, "4ed6cfd83f238b954ea2672d2e67bad0c90cb5f8e1db1ed41617abf7d717921f"), looks := true }, kinds := [], alts := [], laidByText := true, laidKinds := [.data, .pinned], laidTests := true, laidLooks := .later }
def FoldPlaysUptoCardSaid : Prop := Claim7.holds Tryz.pinned (.plain (OpenSpec.upto foldPlaysSpec)) foldPlaysUptoCard

/-- THE SECOND FORM's CARD OF 'treeringlaw15.FoldBuilds'. -/
def foldBuildsUptoCard : Claim7 := { stood := { row := foldBuildsUptoRow, standIns := [], harness := (true, "4ed6cfd83f238b954ea2672d2e67bad0c90cb5f8e1db1ed41617abf7d717921f"), looks := true }, kinds := [], alts := [], laidByText := true, laidKinds := [.data, .pinned], laidTests := true, laidLooks := .later }
def FoldBuildsUptoCardSaid : Prop := Claim7.holds Tryz.pinned (.plain (OpenSpec.upto foldBuildsSpec)) foldBuildsUptoCard

/-- THE SECOND FORM's CARD OF 'treeringlaw21.VersionsAll'. -/
def versionsAllUptoCard : Claim7 := { stood := { row := versionsAllUptoRow, standIns := [], harness := (true, "4ed6cfd83f238b954ea2672d2e67bad0c90cb5f8e1db1ed41617abf7d717921f"), looks := true }, kinds := [], alts := [], laidByText := true, laidKinds := [.data, .pinned], laidTests := true, laidLooks := .later }
def VersionsAllUptoCardSaid : Prop := Claim7.holds Tryz.pinned (.plain (OpenSpec.upto versionsAllSpec)) versionsAllUptoCard

/-- THE SECOND FORM's CARD OF 'treeringlaw21.VersionsKnown'. -/
def versionsKnownUptoCard : Claim7 := { stood := { row := versionsKnownUptoRow, standIns := [], harness := (true, "4ed6cfd83f238b954ea2672d2e67bad0c90cb5f8e1db1ed41617abf7d717921f"), looks := true }, kinds := [], alts := [], laidByText := true, laidKinds := [.data, .pinned], laidTests := true, laidLooks := .later }
def VersionsKnownUptoCardSaid : Prop := Claim7.holds Tryz.pinned (.plain (OpenSpec.upto versionsKnownSpec)) versionsKnownUptoCard

/-- THE SECOND FORM's CARD OF 'treeringlaw20.HistShots'. -/
def histShotsUptoCard : Claim7 := { stood := { row := histShotsUptoRow, standIns := [], harness := (true, "4ed6cfd83f238b954ea2672d2e67bad0c90cb5f8e1db1ed41617abf7d717921f"), looks := true }, kinds := [], alts := [], laidByText := true, laidKinds := [.data, .pinned], laidTests := true, laidLooks := .later }
def HistShotsUptoCardSaid : Prop := Claim7.holds Tryz.pinned (.plain (OpenSpec.upto histShotsSpec)) histShotsUptoCard

/-- THE SECOND FORM's CARD OF 'treeringlaw21.VersionsOf'. -/
def versionsOfUptoCard : Claim7 := { stood := { row := versionsOfUptoRow, standIns := [], harness := (true, "4ed6cfd83f238b954ea2672d2e67bad0c90cb5f8e1db1ed41617abf7d717921f"), looks := true }, kinds := [], alts := [], laidByText := true, laidKinds := [.data, .pinned], laidTests := true, laidLooks := .later }
def VersionsOfUptoCardSaid : Prop := Claim7.holds Tryz.pinned (.plain (OpenSpec.upto versionsOfSpec)) versionsOfUptoCard

/-- THE SECOND FORM's CARD OF 'treeringlaw20.HistKeeps'. -/
def histKeepsUptoCard : Claim7 := { stood := { row := histKeepsUptoRow, standIns := [], harness := (true, "4ed6cfd83f238b954ea2672d2e67bad0c90cb5f8e1db1ed41617abf7d717921f"), looks := true }, kinds := [], alts := [], laidByText := true, laidKinds := [.data, .pinned], laidTests := true, laidLooks := .later }
def HistKeepsUptoCardSaid : Prop := Claim7.holds Tryz.pinned (.plain (OpenSpec.upto histKeepsSpec)) histKeepsUptoCard

/-- THE SECOND FORM's CARD OF 'treeringlaw20.HistHands'. -/
def histHandsUptoCard : Claim7 := { stood := { row := histHandsUptoRow, standIns := [], harness := (true, "4ed6cfd83f238b954ea2672d2e67bad0c90cb5f8e1db1ed41617abf7d717921f"), looks := true }, kinds := [], alts := [], laidByText := true, laidKinds := [.data, .pinned], laidTests := true, laidLooks := .later }
def HistHandsUptoCardSaid : Prop := Claim7.holds Tryz.pinned (.plain (OpenSpec.upto histHandsSpec)) histHandsUptoCard

/-- THE SECOND FORM's CARD OF 'treeringlaw20.HistPlays'. -/
def histPlaysUptoCard : Claim7 := { stood := { row := histPlaysUptoRow, standIns := [], harness := (true, "4ed6cfd83f238b954ea2672d2e67bad0c90cb5f8e1db1ed41617abf7d717921f"), looks := true }, kinds := [], alts := [], laidByText := true, laidKinds := [.data, .pinned], laidTests := true, laidLooks := .later }
def HistPlaysUptoCardSaid : Prop := Claim7.holds Tryz.pinned (.plain (OpenSpec.upto histPlaysSpec)) histPlaysUptoCard

/-- THE SECOND FORM's CARD OF 'treeringlaw16.ShotReads'. -/
def shotReadsUptoCard : Claim7 := { stood := { row := shotReadsUptoRow, standIns := [], harness := (true, "4ed6cfd83f238b954ea2672d2e67bad0c90cb5f8e1db1ed41617abf7d717921f"), looks := true }, kinds := [], alts := [], laidByText := true, laidKinds := [.data, .pinned], laidTests := true, laidLooks := .later }
def ShotReadsUptoCardSaid : Prop := Claim7.holds Tryz.pinned (.plain (OpenSpec.upto shotReadsSpec)) shotReadsUptoCard

/-- THE SECOND FORM's CARD OF 'treeringlaw22.DiffOf'. -/
def diffOfUptoCard : Claim7 := { stood := { row := diffOfUptoRow, standIns := [], harness := (true, "4ed6cfd83f238b954ea2672d2e67bad0c90cb5f8e1db1ed41617abf7d717921f"), looks := true }, kinds := [], alts := [], laidByText := true, laidKinds := [.data, .pinned], laidTests := true, laidLooks := .later }
def DiffOfUptoCardSaid : Prop := Claim7.holds Tryz.pinned (.plain (OpenSpec.upto diffOfSpec)) diffOfUptoCard
end Rows
end Go.Proofs.YtanbffihggdcaaaGreatDoor
