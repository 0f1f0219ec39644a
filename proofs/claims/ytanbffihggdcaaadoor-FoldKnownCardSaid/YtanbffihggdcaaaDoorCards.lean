/-
  DERIVED. GIVEN WITH THE SEED: THE CARDS: each row of YtanbffihggdcaaaDoorRows.lean that lists a variable, with what it lists TIED to the program's text (the seventh form; the later family's looks); each row that meets fmt, with fmt's text TOLD by the authors' own Lean function (tested against real Go, not proved from fmt's source: count such statements apart). THE CARD IS WHAT COUNTS. Prove the row's statement (the work); the ties are given (YtanbffihggdcaaaDoorTie.lean); close each card by the builder's one call (the guide's Derived/Test/ToyasCard.lean, 'card_holds'). Laid BY PROGRAM, IN A SANDBOX (cutbox-door.mjs). By AI agents, Wed Nov 11 2026. No macro, syntax, notation, axiom, sorry.
-/
import Derived.Test.YtanbffihggdcaaaDoorRows
import GoSem.ClaimSeven
namespace Go.Proofs.YtanbffihggdcaaaDoor
namespace Rows

/-- THE TIED CARD OF 'treeringlaw15.FoldKnown'. -/
def foldKnownCard : Claim7 := { stood := { row := foldKnownRow, standIns := [], harness := (true, "c56692df122c12a25dd63d8f7e64c5185d747dd8c1e5c2d3613a8f8ef471e124"), looks := false }, kinds := [], alts := [], laidByText := true, laidKinds := [.data, .pinned], laidTests := true, laidLooks := .later }
def FoldKnownCardSaid : Prop := Claim7.holds Tryd.pinned (.plain (OpenSpec.ofChange foldKnownSpec)) foldKnownCard

/-- THE SECOND FORM's CARD OF 'treeringlaw15.FoldKnown'. -/
def foldKnownUptoCard : Claim7 := { stood := { row := foldKnownUptoRow, standIns := [], harness := (true, "c56692df122c12a25dd63d8f7e64c5185d747dd8c1e5c2d3613a8f8ef471e124"), looks := false }, kinds := [], alts := [], laidByText := true, laidKinds := [.data, .pinned], laidTests := true, laidLooks := .later }
def FoldKnownUptoCardSaid : Prop := Claim7.holds Tryd.pinned (.plain (OpenSpec.upto foldKnownSpec)) foldKnownUptoCard
end Rows
end Go.Proofs.YtanbffihggdcaaaDoor
