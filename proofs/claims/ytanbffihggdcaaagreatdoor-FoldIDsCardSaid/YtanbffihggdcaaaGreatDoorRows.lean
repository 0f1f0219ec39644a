/-
  NARROWER THAN 'FOR EVERY INPUT', by the rows' own cells (each row's printed sentence says how): FoldUses: laid · FoldIDs: laid · FoldPlays: laid · FoldBuilds: laid · VersionsAll: laid · VersionsKnown: laid · HistShots: laid · VersionsOf: laid · HistKeeps: laid · HistHands: laid · HistPlays: laid · ShotReads: laid · DiffOf: laid.
  DERIVED. THE GIVEN ROWS OF THIS SEAT. 13 by the template 'for every input the law returns true; each argument reads behind the call as it read before'; 0 by the template 'total and deterministic' (their statements: YtanbffihggdcaaaGreatDoorTotals.lean).
  GIVEN WITH THE SEED: the statements are not yours to turn. If you find one false, say at which input.
  Laid BY PROGRAM, IN A SANDBOX (cutbox-rows.mjs): the forced cells as the released guide's own fill.sh prints them over the translation f2e9a027a23958db… (all of the seat's roots in one cut). By AI agents, Wed Nov 11 2026. No macro, syntax, notation, axiom, sorry.
-/
import Derived.Test.YtanbffihggdcaaaGreatDoorChecked
import GoSem.PinnedTables
import GoSem.Claim
import GoSem.ClaimJoined
import GoSem.ClaimMapViews
import Derived.JoinedTies
import Derived.KernelRfl
namespace Go.Proofs.YtanbffihggdcaaaGreatDoor
/- THE CELL 'sum', in the pinned program and in every row, IS THE sha256 OF THE DUMP (.gsa) THAT YtanbffihggdcaaaGreatDoorProg.lean LOADS. Nothing in Lean hashes anything: it is a label: what it is worth is what the hold of that sum in a sandbox is worth. -/
noncomputable def Tryz.pinned : Pinned := { name := "ytanbffihggdcaaagreatdoor", sum := "f2e9a027a23958dbd9acd73017df6e46da7b4c2fe5cfa7fd004014e898dffec5", checked := Tryz.checked }
namespace Rows
def none {H : Type} : Left H := { results := [], args := [] }

/- WHAT THE LISTED PACKAGE-LEVEL VARIABLES READ AS WHEN THE CALL BEGINS. Each datum BY PROGRAM (the guide's laid-datum.mjs) off the statement by which the dump's own 'gosem.cut.vars' lays the variable. In a bare row this is a premise. The card (YtanbffihggdcaaaGreatDoorCards.lean) ties it to the program's text. -/
def laid_unicode_utf8_acceptRanges {H : Type} : DataW H := .agg [.agg [.lit (.int .u8 128), .lit (.int .u8 191)], .agg [.lit (.int .u8 160), .lit (.int .u8 191)], .agg [.lit (.int .u8 128), .lit (.int .u8 159)], .agg [.lit (.int .u8 144), .lit (.int .u8 191)], .agg [.lit (.int .u8 128), .lit (.int .u8 143)], .agg [.lit (.int .u8 0), .lit (.int .u8 0)], .agg [.lit (.int .u8 0), .lit (.int .u8 0)], .agg [.lit (.int .u8 0), .lit (.int .u8 0)], .agg [.lit (.int .u8 0), .lit (.int .u8 0)], .agg [.lit (.int .u8 0), .lit (.int .u8 0)], .agg [.lit (.int .u8 0), .lit (.int .u8 0)], .agg [.lit (.int .u8 0), .lit (.int .u8 0)], .agg [.lit (.int .u8 0), .lit (.int .u8 0)], .agg [.lit (.int .u8 0), .lit (.int .u8 0)], .agg [.lit (.int .u8 0), .lit (.int .u8 0)], .agg [.lit (.int .u8 0), .lit (.int .u8 0)]]
/-- One of Go's own tables, pinned by name: the form's constant. -/
def laid_unicode_utf8_first : DataW Unit := Go.Pinned.utf8First

/-- 'treeringlaw15.FoldUses': WHATEVER THE INPUT: true; the input reads as it did. -/
def foldUsesSpec : ChangeSpec := { name := "foldUses", fn := fun _ => fun
  | [d1, d2] => { results := [.lit (.bool true)], args := [d1, d2] }
  | _ => none }
def foldUsesRow : OpenClaim := { program := "ytanbffihggdcaaagreatdoor", sum := "f2e9a027a23958dbd9acd73017df6e46da7b4c2fe5cfa7fd004014e898dffec5", func := "treering/treeringlaw15.FoldUses", spec := "foldUses", inPlace := ["internal/bytealg.CountString", "internal/bytealg.IndexByteString", "internal/bytealg.IndexString", "internal/abi.NoEscape", "internal/bytealg.MakeNoZero"], unfollowed := true, recurses := true, named := ["unicode/utf8.first", "unicode/utf8.acceptRanges", "internal/bytealg.MaxLen"], plainKeys := false, apart := false, laid := [("unicode/utf8.acceptRanges", laid_unicode_utf8_acceptRanges), ("unicode/utf8.first", laid_unicode_utf8_first)] }
def FoldUsesSaid : Prop := foldUsesRow.holds Tryz.pinned (OpenSpec.ofChange foldUsesSpec)

/-- ITS FALSE NEIGHBOUR: 'it returns false'. Refute it at one input. -/
def foldUsesWrong : ChangeSpec := { name := "foldUses", fn := fun _ => fun
  | [d1, d2] => { results := [.lit (.bool false)], args := [d1, d2] }
  | _ => none }
def FoldUsesWrongFalsely : Prop := foldUsesRow.holds Tryz.pinned (OpenSpec.ofChange foldUsesWrong)

/-- 'treeringlaw15.FoldIDs': WHATEVER THE INPUT: true; the input reads as it did. -/
def foldIDsSpec : ChangeSpec := { name := "foldIDs", fn := fun _ => fun
  | [d] => { results := [.lit (.bool true)], args := [d] }
  | _ => none }
def foldIDsRow : OpenClaim := { program := "ytanbffihggdcaaagreatdoor", sum := "f2e9a027a23958dbd9acd73017df6e46da7b4c2fe5cfa7fd004014e898dffec5", func := "treering/treeringlaw15.FoldIDs", spec := "foldIDs", inPlace := ["internal/bytealg.CountString", "internal/bytealg.IndexByteString", "internal/bytealg.IndexString", "internal/abi.NoEscape", "internal/bytealg.MakeNoZero", "maps.clone"], unfollowed := true, recurses := true, named := ["unicode/utf8.first", "unicode/utf8.acceptRanges", "internal/bytealg.MaxLen"], plainKeys := false, apart := false, laid := [("unicode/utf8.acceptRanges", laid_unicode_utf8_acceptRanges), ("unicode/utf8.first", laid_unicode_utf8_first)] }
def FoldIDsSaid : Prop := foldIDsRow.holds Tryz.pinned (OpenSpec.ofChange foldIDsSpec)

/-- ITS FALSE NEIGHBOUR: 'it returns false'. Refute it at one input. -/
def foldIDsWrong : ChangeSpec := { name := "foldIDs", fn := fun _ => fun
  | [d] => { results := [.lit (.bool false)], args := [d] }
  | _ => none }
def FoldIDsWrongFalsely : Prop := foldIDsRow.holds Tryz.pinned (OpenSpec.ofChange foldIDsWrong)

/-- 'treeringlaw15.FoldPlays': WHATEVER THE INPUT: true; the input reads as it did. -/
def foldPlaysSpec : ChangeSpec := { name := "foldPlays", fn := fun _ => fun
  | [d] => { results := [.lit (.bool true)], args := [d] }
  | _ => none }
def foldPlaysRow : OpenClaim := { program := "ytanbffihggdcaaagreatdoor", sum := "f2e9a027a23958dbd9acd73017df6e46da7b4c2fe5cfa7fd004014e898dffec5", func := "treering/treeringlaw15.FoldPlays", spec := "foldPlays", inPlace := ["internal/bytealg.CountString", "internal/bytealg.IndexByteString", "internal/bytealg.IndexString", "internal/abi.NoEscape", "internal/bytealg.MakeNoZero", "maps.clone"], unfollowed := true, recurses := true, named := ["unicode/utf8.first", "unicode/utf8.acceptRanges", "internal/bytealg.MaxLen"], plainKeys := false, apart := false, laid := [("unicode/utf8.acceptRanges", laid_unicode_utf8_acceptRanges), ("unicode/utf8.first", laid_unicode_utf8_first)] }
def FoldPlaysSaid : Prop := foldPlaysRow.holds Tryz.pinned (OpenSpec.ofChange foldPlaysSpec)

/-- ITS FALSE NEIGHBOUR: 'it returns false'. Refute it at one input. -/
def foldPlaysWrong : ChangeSpec := { name := "foldPlays", fn := fun _ => fun
  | [d] => { results := [.lit (.bool false)], args := [d] }
  | _ => none }
def FoldPlaysWrongFalsely : Prop := foldPlaysRow.holds Tryz.pinned (OpenSpec.ofChange foldPlaysWrong)

/-- 'treeringlaw15.FoldBuilds': WHATEVER THE INPUT: true; the input reads as it did. -/
def foldBuildsSpec : ChangeSpec := { name := "foldBuilds", fn := fun _ => fun
  | [d1, d2] => { results := [.lit (.bool true)], args := [d1, d2] }
  | _ => none }
def foldBuildsRow : OpenClaim := { program := "ytanbffihggdcaaagreatdoor", sum := "f2e9a027a23958dbd9acd73017df6e46da7b4c2fe5cfa7fd004014e898dffec5", func := "treering/treeringlaw15.FoldBuilds", spec := "foldBuilds", inPlace := ["internal/bytealg.CountString", "internal/bytealg.IndexByteString", "internal/bytealg.IndexString", "internal/abi.NoEscape", "internal/bytealg.MakeNoZero", "maps.clone"], unfollowed := true, recurses := true, named := ["unicode/utf8.first", "unicode/utf8.acceptRanges", "internal/bytealg.MaxLen"], plainKeys := false, apart := false, laid := [("unicode/utf8.acceptRanges", laid_unicode_utf8_acceptRanges), ("unicode/utf8.first", laid_unicode_utf8_first)] }
def FoldBuildsSaid : Prop := foldBuildsRow.holds Tryz.pinned (OpenSpec.ofChange foldBuildsSpec)

/-- ITS FALSE NEIGHBOUR: 'it returns false'. Refute it at one input. -/
def foldBuildsWrong : ChangeSpec := { name := "foldBuilds", fn := fun _ => fun
  | [d1, d2] => { results := [.lit (.bool false)], args := [d1, d2] }
  | _ => none }
def FoldBuildsWrongFalsely : Prop := foldBuildsRow.holds Tryz.pinned (OpenSpec.ofChange foldBuildsWrong)

/-- 'treeringlaw21.VersionsAll': WHATEVER THE INPUT: true; the input reads as it did. -/
def versionsAllSpec : ChangeSpec := { name := "versionsAll", fn := fun _ => fun
  | [d] => { results := [.lit (.bool true)], args := [d] }
  | _ => none }
def versionsAllRow : OpenClaim := { program := "ytanbffihggdcaaagreatdoor", sum := "f2e9a027a23958dbd9acd73017df6e46da7b4c2fe5cfa7fd004014e898dffec5", func := "treering/treeringlaw21.VersionsAll", spec := "versionsAll", inPlace := ["math.Float64bits", "math.Float64frombits", "maps.clone", "internal/bytealg.CountString", "internal/bytealg.IndexByteString", "internal/bytealg.IndexString", "internal/abi.NoEscape", "internal/bytealg.MakeNoZero"], unfollowed := true, recurses := true, named := ["unicode/utf8.first", "unicode/utf8.acceptRanges", "internal/bytealg.MaxLen"], plainKeys := false, apart := false, laid := [("unicode/utf8.acceptRanges", laid_unicode_utf8_acceptRanges), ("unicode/utf8.first", laid_unicode_utf8_first)] }
def VersionsAllSaid : Prop := versionsAllRow.holds Tryz.pinned (OpenSpec.ofChange versionsAllSpec)

/-- ITS FALSE NEIGHBOUR: 'it returns false'. Refute it at one input. -/
def versionsAllWrong : ChangeSpec := { name := "versionsAll", fn := fun _ => fun
  | [d] => { results := [.lit (.bool false)], args := [d] }
  | _ => none }
def VersionsAllWrongFalsely : Prop := versionsAllRow.holds Tryz.pinned (OpenSpec.ofChange versionsAllWrong)

/-- 'treeringlaw21.VersionsKnown': WHATEVER THE INPUT: true; the input reads as it did. -/
def versionsKnownSpec : ChangeSpec := { name := "versionsKnown", fn := fun _ => fun
  | [] => { results := [.lit (.bool true)], args := [] }
  | _ => none }
def versionsKnownRow : OpenClaim := { program := "ytanbffihggdcaaagreatdoor", sum := "f2e9a027a23958dbd9acd73017df6e46da7b4c2fe5cfa7fd004014e898dffec5", func := "treering/treeringlaw21.VersionsKnown", spec := "versionsKnown", inPlace := ["math.Float64bits", "math.Float64frombits", "maps.clone", "internal/bytealg.CountString", "internal/bytealg.IndexByteString", "internal/bytealg.IndexString", "internal/abi.NoEscape", "internal/bytealg.MakeNoZero"], unfollowed := true, recurses := true, named := ["unicode/utf8.first", "unicode/utf8.acceptRanges", "internal/bytealg.MaxLen"], plainKeys := false, apart := false, laid := [("unicode/utf8.acceptRanges", laid_unicode_utf8_acceptRanges), ("unicode/utf8.first", laid_unicode_utf8_first)] }
def VersionsKnownSaid : Prop := versionsKnownRow.holds Tryz.pinned (OpenSpec.ofChange versionsKnownSpec)

/-- ITS FALSE NEIGHBOUR: 'it returns false'. Refute it at one input. -/
def versionsKnownWrong : ChangeSpec := { name := "versionsKnown", fn := fun _ => fun
  | [] => { results := [.lit (.bool false)], args := [] }
  | _ => none }
def VersionsKnownWrongFalsely : Prop := versionsKnownRow.holds Tryz.pinned (OpenSpec.ofChange versionsKnownWrong)

/-- 'treeringlaw20.HistShots': WHATEVER THE INPUT: true; the input reads as it did. -/
def histShotsSpec : ChangeSpec := { name := "histShots", fn := fun _ => fun
  | [d1, d2] => { results := [.lit (.bool true)], args := [d1, d2] }
  | _ => none }
def histShotsRow : OpenClaim := { program := "ytanbffihggdcaaagreatdoor", sum := "f2e9a027a23958dbd9acd73017df6e46da7b4c2fe5cfa7fd004014e898dffec5", func := "treering/treeringlaw20.HistShots", spec := "histShots", inPlace := ["math.Float64bits", "math.Float64frombits", "maps.clone", "internal/bytealg.CountString", "internal/bytealg.IndexByteString", "internal/bytealg.IndexString", "internal/abi.NoEscape", "internal/bytealg.MakeNoZero"], unfollowed := true, recurses := true, named := ["unicode/utf8.first", "unicode/utf8.acceptRanges", "internal/bytealg.MaxLen"], plainKeys := false, apart := false, laid := [("unicode/utf8.acceptRanges", laid_unicode_utf8_acceptRanges), ("unicode/utf8.first", laid_unicode_utf8_first)] }
def HistShotsSaid : Prop := histShotsRow.holds Tryz.pinned (OpenSpec.ofChange histShotsSpec)

/-- ITS FALSE NEIGHBOUR: 'it returns false'. Refute it at one input. -/
def histShotsWrong : ChangeSpec := { name := "histShots", fn := fun _ => fun
  | [d1, d2] => { results := [.lit (.bool false)], args := [d1, d2] }
  | _ => none }
def HistShotsWrongFalsely : Prop := histShotsRow.holds Tryz.pinned (OpenSpec.ofChange histShotsWrong)

/-- 'treeringlaw21.VersionsOf': WHATEVER THE INPUT: true; the input reads as it did. -/
def versionsOfSpec : ChangeSpec := { name := "versionsOf", fn := fun _ => fun
  | [d1, d2, d3] => { results := [.lit (.bool true)], args := [d1, d2, d3] }
  | _ => none }
def versionsOfRow : OpenClaim := { program := "ytanbffihggdcaaagreatdoor", sum := "f2e9a027a23958dbd9acd73017df6e46da7b4c2fe5cfa7fd004014e898dffec5", func := "treering/treeringlaw21.VersionsOf", spec := "versionsOf", inPlace := ["math.Float64bits", "math.Float64frombits", "maps.clone", "internal/bytealg.CountString", "internal/bytealg.IndexByteString", "internal/bytealg.IndexString", "internal/abi.NoEscape", "internal/bytealg.MakeNoZero"], unfollowed := true, recurses := true, named := ["unicode/utf8.first", "unicode/utf8.acceptRanges", "internal/bytealg.MaxLen"], plainKeys := false, apart := false, laid := [("unicode/utf8.acceptRanges", laid_unicode_utf8_acceptRanges), ("unicode/utf8.first", laid_unicode_utf8_first)] }
def VersionsOfSaid : Prop := versionsOfRow.holds Tryz.pinned (OpenSpec.ofChange versionsOfSpec)

/-- ITS FALSE NEIGHBOUR: 'it returns false'. Refute it at one input. -/
def versionsOfWrong : ChangeSpec := { name := "versionsOf", fn := fun _ => fun
  | [d1, d2, d3] => { results := [.lit (.bool false)], args := [d1, d2, d3] }
  | _ => none }
def VersionsOfWrongFalsely : Prop := versionsOfRow.holds Tryz.pinned (OpenSpec.ofChange versionsOfWrong)

/-- 'treeringlaw20.HistKeeps': WHATEVER THE INPUT: true; the input reads as it did. -/
def histKeepsSpec : ChangeSpec := { name := "histKeeps", fn := fun _ => fun
  | [d1, d2, d3] => { results := [.lit (.bool true)], args := [d1, d2, d3] }
  | _ => none }
def histKeepsRow : OpenClaim := { program := "ytanbffihggdcaaagreatdoor", sum := "f2e9a027a23958dbd9acd73017df6e46da7b4c2fe5cfa7fd004014e898dffec5", func := "treering/treeringlaw20.HistKeeps", spec := "histKeeps", inPlace := ["math.Float64bits", "math.Float64frombits", "maps.clone", "internal/bytealg.CountString", "internal/bytealg.IndexByteString", "internal/bytealg.IndexString", "internal/abi.NoEscape", "internal/bytealg.MakeNoZero"], unfollowed := true, recurses := true, named := ["unicode/utf8.first", "unicode/utf8.acceptRanges", "internal/bytealg.MaxLen"], plainKeys := false, apart := false, laid := [("unicode/utf8.acceptRanges", laid_unicode_utf8_acceptRanges), ("unicode/utf8.first", laid_unicode_utf8_first)] }
def HistKeepsSaid : Prop := histKeepsRow.holds Tryz.pinned (OpenSpec.ofChange histKeepsSpec)

/-- ITS FALSE NEIGHBOUR: 'it returns false'. Refute it at one input. -/
def histKeepsWrong : ChangeSpec := { name := "histKeeps", fn := fun _ => fun
  | [d1, d2, d3] => { results := [.lit (.bool false)], args := [d1, d2, d3] }
  | _ => none }
def HistKeepsWrongFalsely : Prop := histKeepsRow.holds Tryz.pinned (OpenSpec.ofChange histKeepsWrong)

/-- 'treeringlaw20.HistHands': WHATEVER THE INPUT: true; the input reads as it did. -/
def histHandsSpec : ChangeSpec := { name := "histHands", fn := fun _ => fun
  | [d1, d2] => { results := [.lit (.bool true)], args := [d1, d2] }
  | _ => none }
def histHandsRow : OpenClaim := { program := "ytanbffihggdcaaagreatdoor", sum := "f2e9a027a23958dbd9acd73017df6e46da7b4c2fe5cfa7fd004014e898dffec5", func := "treering/treeringlaw20.HistHands", spec := "histHands", inPlace := ["math.Float64bits", "math.Float64frombits", "maps.clone", "internal/bytealg.CountString", "internal/bytealg.IndexByteString", "internal/bytealg.IndexString", "internal/abi.NoEscape", "internal/bytealg.MakeNoZero"], unfollowed := true, recurses := true, named := ["unicode/utf8.first", "unicode/utf8.acceptRanges", "internal/bytealg.MaxLen"], plainKeys := false, apart := false, laid := [("unicode/utf8.acceptRanges", laid_unicode_utf8_acceptRanges), ("unicode/utf8.first", laid_unicode_utf8_first)] }
def HistHandsSaid : Prop := histHandsRow.holds Tryz.pinned (OpenSpec.ofChange histHandsSpec)

/-- ITS FALSE NEIGHBOUR: 'it returns false'. Refute it at one input. -/
def histHandsWrong : ChangeSpec := { name := "histHands", fn := fun _ => fun
  | [d1, d2] => { results := [.lit (.bool false)], args := [d1, d2] }
  | _ => none }
def HistHandsWrongFalsely : Prop := histHandsRow.holds Tryz.pinned (OpenSpec.ofChange histHandsWrong)

/-- 'treeringlaw20.HistPlays': WHATEVER THE INPUT: true; the input reads as it did. -/
def histPlaysSpec : ChangeSpec := { name := "histPlays", fn := fun _ => fun
  | [d] => { results := [.lit (.bool true)], args := [d] }
  | _ => none }
def histPlaysRow : OpenClaim := { program := "ytanbffihggdcaaagreatdoor", sum := "f2e9a027a23958dbd9acd73017df6e46da7b4c2fe5cfa7fd004014e898dffec5", func := "treering/treeringlaw20.HistPlays", spec := "histPlays", inPlace := ["math.Float64bits", "math.Float64frombits", "maps.clone", "internal/bytealg.CountString", "internal/bytealg.IndexByteString", "internal/bytealg.IndexString", "internal/abi.NoEscape", "internal/bytealg.MakeNoZero"], unfollowed := true, recurses := true, named := ["unicode/utf8.first", "unicode/utf8.acceptRanges", "internal/bytealg.MaxLen"], plainKeys := false, apart := false, laid := [("unicode/utf8.acceptRanges", laid_unicode_utf8_acceptRanges), ("unicode/utf8.first", laid_unicode_utf8_first)] }
def HistPlaysSaid : Prop := histPlaysRow.holds Tryz.pinned (OpenSpec.ofChange histPlaysSpec)

/-- ITS FALSE NEIGHBOUR: 'it returns false'. Refute it at one input. -/
def histPlaysWrong : ChangeSpec := { name := "histPlays", fn := fun _ => fun
  | [d] => { results := [.lit (.bool false)], args := [d] }
  | _ => none }
def HistPlaysWrongFalsely : Prop := histPlaysRow.holds Tryz.pinned (OpenSpec.ofChange histPlaysWrong)

/-- 'treeringlaw16.ShotReads': WHATEVER THE INPUT: true; the input reads as it did. -/
def shotReadsSpec : ChangeSpec := { name := "shotReads", fn := fun _ => fun
  | [d] => { results := [.lit (.bool true)], args := [d] }
  | _ => none }
def shotReadsRow : OpenClaim := { program := "ytanbffihggdcaaagreatdoor", sum := "f2e9a027a23958dbd9acd73017df6e46da7b4c2fe5cfa7fd004014e898dffec5", func := "treering/treeringlaw16.ShotReads", spec := "shotReads", inPlace := ["maps.clone", "internal/bytealg.CountString", "internal/bytealg.IndexByteString", "internal/bytealg.IndexString", "internal/abi.NoEscape", "internal/bytealg.MakeNoZero"], unfollowed := true, recurses := true, named := ["unicode/utf8.first", "unicode/utf8.acceptRanges", "internal/bytealg.MaxLen"], plainKeys := false, apart := false, laid := [("unicode/utf8.acceptRanges", laid_unicode_utf8_acceptRanges), ("unicode/utf8.first", laid_unicode_utf8_first)] }
def ShotReadsSaid : Prop := shotReadsRow.holds Tryz.pinned (OpenSpec.ofChange shotReadsSpec)

/-- ITS FALSE NEIGHBOUR: 'it returns false'. Refute it at one input. -/
def shotReadsWrong : ChangeSpec := { name := "shotReads", fn := fun _ => fun
  | [d] => { results := [.lit (.bool false)], args := [d] }
  | _ => none }
def ShotReadsWrongFalsely : Prop := shotReadsRow.holds Tryz.pinned (OpenSpec.ofChange shotReadsWrong)

/-- 'treeringlaw22.DiffOf': WHATEVER THE INPUT: true; the input reads as it did. -/
def diffOfSpec : ChangeSpec := { name := "diffOf", fn := fun _ => fun
  | [d1, d2, d3] => { results := [.lit (.bool true)], args := [d1, d2, d3] }
  | _ => none }
def diffOfRow : OpenClaim := { program := "ytanbffihggdcaaagreatdoor", sum := "f2e9a027a23958dbd9acd73017df6e46da7b4c2fe5cfa7fd004014e898dffec5", func := "treering/treeringlaw22.DiffOf", spec := "diffOf", inPlace := ["internal/bytealg.CountString", "internal/bytealg.IndexByteString", "internal/bytealg.IndexString", "internal/abi.NoEscape", "internal/bytealg.MakeNoZero", "maps.clone"], unfollowed := true, recurses := true, named := ["unicode/utf8.first", "unicode/utf8.acceptRanges", "internal/bytealg.MaxLen"], plainKeys := false, apart := false, laid := [("unicode/utf8.acceptRanges", laid_unicode_utf8_acceptRanges), ("unicode/utf8.first", laid_unicode_utf8_first)] }
def DiffOfSaid : Prop := diffOfRow.holds Tryz.pinned (OpenSpec.ofChange diffOfSpec)

/-- ITS FALSE NEIGHBOUR: 'it returns false'. Refute it at one input. -/
def diffOfWrong : ChangeSpec := { name := "diffOf", fn := fun _ => fun
  | [d1, d2, d3] => { results := [.lit (.bool false)], args := [d1, d2, d3] }
  | _ => none }
def DiffOfWrongFalsely : Prop := diffOfRow.holds Tryz.pinned (OpenSpec.ofChange diffOfWrong)

/- THE SECOND FORM. 'bulk': how many values and letters a reading holds, each counted each time it is reached (what is shared counts as often as it is met; a slice's spare places count too). A statement '..UptoSaid' is the law's where the arguments, and the package variables that the reading takes, are together of bulk at most 1048576: NARROWER than '..Said'. Prove '..Said' where nothing that the law and all that it calls make is longer than what came in: it says more and counts as full. Else prove '..UptoSaid'. A law counts once. -/
mutual
def uptoBulk {H : Type} : DataW H → Nat
  | .lit (.string bytes) => bytes.length + 1
  | .lit _ => 1
  | .nil => 1
  | .ptr d => uptoBulk d + 1
  | .slice elems spare => uptoBulkAll elems + uptoBulkAll spare + 1
  | .agg parts => uptoBulkAll parts + 1
  | .iface _ d => uptoBulk d + 1
  | .map entries => uptoBulkEntries entries + 1
  | .held _ => 1
def uptoBulkAll {H : Type} : List (DataW H) → Nat
  | [] => 0
  | d :: r => uptoBulk d + uptoBulkAll r
def uptoBulkEntries {H : Type} : List (Lit × DataW H) → Nat
  | [] => 0
  | x :: r => uptoBulkEntry x + uptoBulkEntries r
def uptoBulkEntry {H : Type} : Lit × DataW H → Nat
  | (.string bytes, d) => bytes.length + uptoBulk d + 1
  | (_, d) => uptoBulk d + 1
 end
def uptoSmall : (H : Type) → List (DataW H) → Bool := fun _ ds => decide (uptoBulkAll ds ≤ 1048576)
def OpenSpec.upto (s : _root_.Go.ChangeSpec) : _root_.Go.OpenSpec := { _root_.Go.OpenSpec.ofChange s with cond := some uptoSmall }

/-- 'treeringlaw15.FoldUses', WHERE WHAT IT READS IS OF BULK AT MOST 1048576: true; the input reads as it did. -/
def foldUsesUptoRow : OpenClaim := { program := "ytanbffihggdcaaagreatdoor", sum := "f2e9a027a23958dbd9acd73017df6e46da7b4c2fe5cfa7fd004014e898dffec5", func := "treering/treeringlaw15.FoldUses", spec := "foldUses", inPlace := ["internal/bytealg.CountString", "internal/bytealg.IndexByteString", "internal/bytealg.IndexString", "internal/abi.NoEscape", "internal/bytealg.MakeNoZero"], unfollowed := true, recurses := true, named := ["unicode/utf8.first", "unicode/utf8.acceptRanges", "internal/bytealg.MaxLen"], plainKeys := false, apart := false, laid := [("unicode/utf8.acceptRanges", laid_unicode_utf8_acceptRanges), ("unicode/utf8.first", laid_unicode_utf8_first)], narrowed := true }
def FoldUsesUptoSaid : Prop := foldUsesUptoRow.holds Tryz.pinned (OpenSpec.upto foldUsesSpec)

/-- 'treeringlaw15.FoldIDs', WHERE WHAT IT READS IS OF BULK AT MOST 1048576: true; the input reads as it did. -/
def foldIDsUptoRow : OpenClaim := { program := "ytanbffihggdcaaagreatdoor", sum := "f2e9a027a23958dbd9acd73017df6e46da7b4c2fe5cfa7fd004014e898dffec5", func := "treering/treeringlaw15.FoldIDs", spec := "foldIDs", inPlace := ["internal/bytealg.CountString", "internal/bytealg.IndexByteString", "internal/bytealg.IndexString", "internal/abi.NoEscape", "internal/bytealg.MakeNoZero", "maps.clone"], unfollowed := true, recurses := true, named := ["unicode/utf8.first", "unicode/utf8.acceptRanges", "internal/bytealg.MaxLen"], plainKeys := false, apart := false, laid := [("unicode/utf8.acceptRanges", laid_unicode_utf8_acceptRanges), ("unicode/utf8.first", laid_unicode_utf8_first)], narrowed := true }
def FoldIDsUptoSaid : Prop := foldIDsUptoRow.holds Tryz.pinned (OpenSpec.upto foldIDsSpec)

/-- 'treeringlaw15.FoldPlays', WHERE WHAT IT READS IS OF BULK AT MOST 1048576: true; the input reads as it did. -/
def foldPlaysUptoRow : OpenClaim := { program := "ytanbffihggdcaaagreatdoor", sum := "f2e9a027a23958dbd9acd73017df6e46da7b4c2fe5cfa7fd004014e898dffec5", func := "treering/treeringlaw15.FoldPlays", spec := "foldPlays", inPlace := ["internal/bytealg.CountString", "internal/bytealg.IndexByteString", "internal/bytealg.IndexString", "internal/abi.NoEscape", "internal/bytealg.MakeNoZero", "maps.clone"], unfollowed := true, recurses := true, named := ["unicode/utf8.first", "unicode/utf8.acceptRanges", "internal/bytealg.MaxLen"], plainKeys := false, apart := false, laid := [("unicode/utf8.acceptRanges", laid_unicode_utf8_acceptRanges), ("unicode/utf8.first", laid_unicode_utf8_first)], narrowed := true }
def FoldPlaysUptoSaid : Prop := foldPlaysUptoRow.holds Tryz.pinned (OpenSpec.upto foldPlaysSpec)

/-- 'treeringlaw15.FoldBuilds', WHERE WHAT IT READS IS OF BULK AT MOST 1048576: true; the input reads as it did. -/
def foldBuildsUptoRow : OpenClaim := { program := "ytanbffihggdcaaagreatdoor", sum := "f2e9a027a23958dbd9acd73017df6e46da7b4c2fe5cfa7fd004014e898dffec5", func := "treering/treeringlaw15.FoldBuilds", spec := "foldBuilds", inPlace := ["internal/bytealg.CountString", "internal/bytealg.IndexByteString", "internal/bytealg.IndexString", "internal/abi.NoEscape", "internal/bytealg.MakeNoZero", "maps.clone"], unfollowed := true, recurses := true, named := ["unicode/utf8.first", "unicode/utf8.acceptRanges", "internal/bytealg.MaxLen"], plainKeys := false, apart := false, laid := [("unicode/utf8.acceptRanges", laid_unicode_utf8_acceptRanges), ("unicode/utf8.first", laid_unicode_utf8_first)], narrowed := true }
def FoldBuildsUptoSaid : Prop := foldBuildsUptoRow.holds Tryz.pinned (OpenSpec.upto foldBuildsSpec)

/-- 'treeringlaw21.VersionsAll', WHERE WHAT IT READS IS OF BULK AT MOST 1048576: true; the input reads as it did. -/
def versionsAllUptoRow : OpenClaim := { program := "ytanbffihggdcaaagreatdoor", sum := "f2e9a027a23958dbd9acd73017df6e46da7b4c2fe5cfa7fd004014e898dffec5", func := "treering/treeringlaw21.VersionsAll", spec := "versionsAll", inPlace := ["math.Float64bits", "math.Float64frombits", "maps.clone", "internal/bytealg.CountString", "internal/bytealg.IndexByteString", "internal/bytealg.IndexString", "internal/abi.NoEscape", "internal/bytealg.MakeNoZero"], unfollowed := true, recurses := true, named := ["unicode/utf8.first", "unicode/utf8.acceptRanges", "internal/bytealg.MaxLen"], plainKeys := false, apart := false, laid := [("unicode/utf8.acceptRanges", laid_unicode_utf8_acceptRanges), ("unicode/utf8.first", laid_unicode_utf8_first)], narrowed := true }
def VersionsAllUptoSaid : Prop := versionsAllUptoRow.holds Tryz.pinned (OpenSpec.upto versionsAllSpec)

/-- 'treeringlaw21.VersionsKnown', WHERE WHAT IT READS IS OF BULK AT MOST 1048576: true; the input reads as it did. -/
def versionsKnownUptoRow : OpenClaim := { program := "ytanbffihggdcaaagreatdoor", sum := "f2e9a027a23958dbd9acd73017df6e46da7b4c2fe5cfa7fd004014e898dffec5", func := "treering/treeringlaw21.VersionsKnown", spec := "versionsKnown", inPlace := ["math.Float64bits", "math.Float64frombits", "maps.clone", "internal/bytealg.CountString", "internal/bytealg.IndexByteString", "internal/bytealg.IndexString", "internal/abi.NoEscape", "internal/bytealg.MakeNoZero"], unfollowed := true, recurses := true, named := ["unicode/utf8.first", "unicode/utf8.acceptRanges", "internal/bytealg.MaxLen"], plainKeys := false, apart := false, laid := [("unicode/utf8.acceptRanges", laid_unicode_utf8_acceptRanges), ("unicode/utf8.first", laid_unicode_utf8_first)], narrowed := true }
def VersionsKnownUptoSaid : Prop := versionsKnownUptoRow.holds Tryz.pinned (OpenSpec.upto versionsKnownSpec)

/-- 'treeringlaw20.HistShots', WHERE WHAT IT READS IS OF BULK AT MOST 1048576: true; the input reads as it did. -/
def histShotsUptoRow : OpenClaim := { program := "ytanbffihggdcaaagreatdoor", sum := "f2e9a027a23958dbd9acd73017df6e46da7b4c2fe5cfa7fd004014e898dffec5", func := "treering/treeringlaw20.HistShots", spec := "histShots", inPlace := ["math.Float64bits", "math.Float64frombits", "maps.clone", "internal/bytealg.CountString", "internal/bytealg.IndexByteString", "internal/bytealg.IndexString", "internal/abi.NoEscape", "internal/bytealg.MakeNoZero"], unfollowed := true, recurses := true, named := ["unicode/utf8.first", "unicode/utf8.acceptRanges", "internal/bytealg.MaxLen"], plainKeys := false, apart := false, laid := [("unicode/utf8.acceptRanges", laid_unicode_utf8_acceptRanges), ("unicode/utf8.first", laid_unicode_utf8_first)], narrowed := true }
def HistShotsUptoSaid : Prop := histShotsUptoRow.holds Tryz.pinned (OpenSpec.upto histShotsSpec)

/-- 'treeringlaw21.VersionsOf', WHERE WHAT IT READS IS OF BULK AT MOST 1048576: true; the input reads as it did. -/
def versionsOfUptoRow : OpenClaim := { program := "ytanbffihggdcaaagreatdoor", sum := "f2e9a027a23958dbd9acd73017df6e46da7b4c2fe5cfa7fd004014e898dffec5", func := "treering/treeringlaw21.VersionsOf", spec := "versionsOf", inPlace := ["math.Float64bits", "math.Float64frombits", "maps.clone", "internal/bytealg.CountString", "internal/bytealg.IndexByteString", "internal/bytealg.IndexString", "internal/abi.NoEscape", "internal/bytealg.MakeNoZero"], unfollowed := true, recurses := true, named := ["unicode/utf8.first", "unicode/utf8.acceptRanges", "internal/bytealg.MaxLen"], plainKeys := false, apart := false, laid := [("unicode/utf8.acceptRanges", laid_unicode_utf8_acceptRanges), ("unicode/utf8.first", laid_unicode_utf8_first)], narrowed := true }
def VersionsOfUptoSaid : Prop := versionsOfUptoRow.holds Tryz.pinned (OpenSpec.upto versionsOfSpec)

/-- 'treeringlaw20.HistKeeps', WHERE WHAT IT READS IS OF BULK AT MOST 1048576: true; the input reads as it did. -/
def histKeepsUptoRow : OpenClaim := { program := "ytanbffihggdcaaagreatdoor", sum := "f2e9a027a23958dbd9acd73017df6e46da7b4c2fe5cfa7fd004014e898dffec5", func := "treering/treeringlaw20.HistKeeps", spec := "histKeeps", inPlace := ["math.Float64bits", "math.Float64frombits", "maps.clone", "internal/bytealg.CountString", "internal/bytealg.IndexByteString", "internal/bytealg.IndexString", "internal/abi.NoEscape", "internal/bytealg.MakeNoZero"], unfollowed := true, recurses := true, named := ["unicode/utf8.first", "unicode/utf8.acceptRanges", "internal/bytealg.MaxLen"], plainKeys := false, apart := false, laid := [("unicode/utf8.acceptRanges", laid_unicode_utf8_acceptRanges), ("unicode/utf8.first", laid_unicode_utf8_first)], narrowed := true }
def HistKeepsUptoSaid : Prop := histKeepsUptoRow.holds Tryz.pinned (OpenSpec.upto histKeepsSpec)

/-- 'treeringlaw20.HistHands', WHERE WHAT IT READS IS OF BULK AT MOST 1048576: true; the input reads as it did. -/
def histHandsUptoRow : OpenClaim := { program := "ytanbffihggdcaaagreatdoor", sum := "f2e9a027a23958dbd9acd73017df6e46da7b4c2fe5cfa7fd004014e898dffec5", func := "treering/treeringlaw20.HistHands", spec := "histHands", inPlace := ["math.Float64bits", "math.Float64frombits", "maps.clone", "internal/bytealg.CountString", "internal/bytealg.IndexByteString", "internal/bytealg.IndexString", "internal/abi.NoEscape", "internal/bytealg.MakeNoZero"], unfollowed := true, recurses := true, named := ["unicode/utf8.first", "unicode/utf8.acceptRanges", "internal/bytealg.MaxLen"], plainKeys := false, apart := false, laid := [("unicode/utf8.acceptRanges", laid_unicode_utf8_acceptRanges), ("unicode/utf8.first", laid_unicode_utf8_first)], narrowed := true }
def HistHandsUptoSaid : Prop := histHandsUptoRow.holds Tryz.pinned (OpenSpec.upto histHandsSpec)

/-- 'treeringlaw20.HistPlays', WHERE WHAT IT READS IS OF BULK AT MOST 1048576: true; the input reads as it did. -/
def histPlaysUptoRow : OpenClaim := { program := "ytanbffihggdcaaagreatdoor", sum := "f2e9a027a23958dbd9acd73017df6e46da7b4c2fe5cfa7fd004014e898dffec5", func := "treering/treeringlaw20.HistPlays", spec := "histPlays", inPlace := ["math.Float64bits", "math.Float64frombits", "maps.clone", "internal/bytealg.CountString", "internal/bytealg.IndexByteString", "internal/bytealg.IndexString", "internal/abi.NoEscape", "internal/bytealg.MakeNoZero"], unfollowed := true, recurses := true, named := ["unicode/utf8.first", "unicode/utf8.acceptRanges", "internal/bytealg.MaxLen"], plainKeys := false, apart := false, laid := [("unicode/utf8.acceptRanges", laid_unicode_utf8_acceptRanges), ("unicode/utf8.first", laid_unicode_utf8_first)], narrowed := true }
def HistPlaysUptoSaid : Prop := histPlaysUptoRow.holds Tryz.pinned (OpenSpec.upto histPlaysSpec)

/-- 'treeringlaw16.ShotReads', WHERE WHAT IT READS IS OF BULK AT MOST 1048576: true; the input reads as it did. -/
def shotReadsUptoRow : OpenClaim := { program := "ytanbffihggdcaaagreatdoor", sum := "f2e9a027a23958dbd9acd73017df6e46da7b4c2fe5cfa7fd004014e898dffec5", func := "treering/treeringlaw16.ShotReads", spec := "shotReads", inPlace := ["maps.clone", "internal/bytealg.CountString", "internal/bytealg.IndexByteString", "internal/bytealg.IndexString", "internal/abi.NoEscape", "internal/bytealg.MakeNoZero"], unfollowed := true, recurses := true, named := ["unicode/utf8.first", "unicode/utf8.acceptRanges", "internal/bytealg.MaxLen"], plainKeys := false, apart := false, laid := [("unicode/utf8.acceptRanges", laid_unicode_utf8_acceptRanges), ("unicode/utf8.first", laid_unicode_utf8_first)], narrowed := true }
def ShotReadsUptoSaid : Prop := shotReadsUptoRow.holds Tryz.pinned (OpenSpec.upto shotReadsSpec)

/-- 'treeringlaw22.DiffOf', WHERE WHAT IT READS IS OF BULK AT MOST 1048576: true; the input reads as it did. -/
def diffOfUptoRow : OpenClaim := { program := "ytanbffihggdcaaagreatdoor", sum := "f2e9a027a23958dbd9acd73017df6e46da7b4c2fe5cfa7fd004014e898dffec5", func := "treering/treeringlaw22.DiffOf", spec := "diffOf", inPlace := ["internal/bytealg.CountString", "internal/bytealg.IndexByteString", "internal/bytealg.IndexString", "internal/abi.NoEscape", "internal/bytealg.MakeNoZero", "maps.clone"], unfollowed := true, recurses := true, named := ["unicode/utf8.first", "unicode/utf8.acceptRanges", "internal/bytealg.MaxLen"], plainKeys := false, apart := false, laid := [("unicode/utf8.acceptRanges", laid_unicode_utf8_acceptRanges), ("unicode/utf8.first", laid_unicode_utf8_first)], narrowed := true }
def DiffOfUptoSaid : Prop := diffOfUptoRow.holds Tryz.pinned (OpenSpec.upto diffOfSpec)

end Rows
end Go.Proofs.YtanbffihggdcaaaGreatDoor
