/-
  NARROWER THAN 'FOR EVERY INPUT', by the rows' own cells (each row's printed sentence says how): SquashEmpty: laid · DiffTells: laid · DiffLeads: laid · DiffLeast: laid · DiffThere: laid · FilterLayers: laid · FilterTrees: laid · FilterParses: laid · ApplyPaths: laid · ApplyTwice: laid · ApplyClears: laid · ApplyRows: laid · HistoryBack: laid · HistoryRuns: laid · HistoryNone: laid · PruneDoes: laid · PruneIdle: laid · PruneLeast: laid.
  DERIVED. THE GIVEN ROWS OF THIS SEAT. 18 by the template 'for every input the law returns true; each argument reads behind the call as it read before'; 0 by the template 'total and deterministic' (their statements: YtbkbpdpegiekhaaGreatDoorTotals.lean).
  GIVEN WITH THE SEED: the statements are not yours to turn. If you find one false, say at which input.
  Laid BY PROGRAM, IN A SANDBOX (cutbox-rows.mjs): the forced cells as the released guide's own fill.sh prints them over the translation 2455c5230e563c3b… (all of the seat's roots in one cut). By AI agents, Wed Nov 11 2026. No macro, syntax, notation, axiom, sorry.
-/
import Derived.Test.YtbkbpdpegiekhaaGreatDoorChecked
import GoSem.PinnedTables
import GoSem.Claim
import GoSem.ClaimJoined
import GoSem.ClaimMapViews
import Derived.JoinedTies
import Derived.KernelRfl
namespace Go.Proofs.YtbkbpdpegiekhaaGreatDoor
/- THE CELL 'sum', in the pinned program and in every row, IS THE sha256 OF THE DUMP (.gsa) THAT YtbkbpdpegiekhaaGreatDoorProg.lean LOADS. Nothing in Lean hashes anything: it is a label: what it is worth is what the hold of that sum in a sandbox is worth. -/
noncomputable def Tryz.pinned : Pinned := { name := "ytbkbpdpegiekhaagreatdoor", sum := "2455c5230e563c3b26396312a3e6e44d165aa0d0223f662dcc63e8fef856ae13", checked := Tryz.checked }
namespace Rows
def none {H : Type} : Left H := { results := [], args := [] }

/- WHAT THE LISTED PACKAGE-LEVEL VARIABLES READ AS WHEN THE CALL BEGINS. Each datum BY PROGRAM (the guide's laid-datum.mjs) off the statement by which the dump's own 'gosem.cut.vars' lays the variable. In a bare row this is a premise. The card (YtbkbpdpegiekhaaGreatDoorCards.lean) ties it to the program's text. -/
def laid_unicode_utf8_acceptRanges {H : Type} : DataW H := .agg [.agg [.lit (.int .u8 128), .lit (.int .u8 191)], .agg [.lit (.int .u8 160), .lit (.int .u8 191)], .agg [.lit (.int .u8 128), .lit (.int .u8 159)], .agg [.lit (.int .u8 144), .lit (.int .u8 191)], .agg [.lit (.int .u8 128), .lit (.int .u8 143)], .agg [.lit (.int .u8 0), .lit (.int .u8 0)], .agg [.lit (.int .u8 0), .lit (.int .u8 0)], .agg [.lit (.int .u8 0), .lit (.int .u8 0)], .agg [.lit (.int .u8 0), .lit (.int .u8 0)], .agg [.lit (.int .u8 0), .lit (.int .u8 0)], .agg [.lit (.int .u8 0), .lit (.int .u8 0)], .agg [.lit (.int .u8 0), .lit (.int .u8 0)], .agg [.lit (.int .u8 0), .lit (.int .u8 0)], .agg [.lit (.int .u8 0), .lit (.int .u8 0)], .agg [.lit (.int .u8 0), .lit (.int .u8 0)], .agg [.lit (.int .u8 0), .lit (.int .u8 0)]]
/-- One of Go's own tables, pinned by name: the form's constant. -/
def laid_unicode_utf8_first : DataW Unit := Go.Pinned.utf8First

/-- 'montagelaw25.SquashEmpty': WHATEVER THE INPUT: true; the input reads as it did. -/
def squashEmptySpec : ChangeSpec := { name := "squashEmpty", fn := fun _ => fun
  | [d] => { results := [.lit (.bool true)], args := [d] }
  | _ => none }
def squashEmptyRow : OpenClaim := { program := "ytbkbpdpegiekhaagreatdoor", sum := "2455c5230e563c3b26396312a3e6e44d165aa0d0223f662dcc63e8fef856ae13", func := "montage/montagelaw25.SquashEmpty", spec := "squashEmpty", inPlace := ["internal/bytealg.CountString", "internal/bytealg.IndexByteString", "internal/bytealg.IndexString", "internal/abi.NoEscape"], unfollowed := true, recurses := true, named := ["unicode/utf8.first", "unicode/utf8.acceptRanges", "internal/bytealg.MaxLen"], apart := false, laid := [("unicode/utf8.acceptRanges", laid_unicode_utf8_acceptRanges), ("unicode/utf8.first", laid_unicode_utf8_first)] }
def SquashEmptySaid : Prop := squashEmptyRow.holds Tryz.pinned (OpenSpec.ofChange squashEmptySpec)

/-- ITS FALSE NEIGHBOUR: 'it returns false'. Refute it at one input. -/
def squashEmptyWrong : ChangeSpec := { name := "squashEmpty", fn := fun _ => fun
  | [d] => { results := [.lit (.bool false)], args := [d] }
  | _ => none }
def SquashEmptyWrongFalsely : Prop := squashEmptyRow.holds Tryz.pinned (OpenSpec.ofChange squashEmptyWrong)

/-- 'montagelaw26.DiffTells': WHATEVER THE INPUT: true; the input reads as it did. -/
def diffTellsSpec : ChangeSpec := { name := "diffTells", fn := fun _ => fun
  | [d1, d2] => { results := [.lit (.bool true)], args := [d1, d2] }
  | _ => none }
def diffTellsRow : OpenClaim := { program := "ytbkbpdpegiekhaagreatdoor", sum := "2455c5230e563c3b26396312a3e6e44d165aa0d0223f662dcc63e8fef856ae13", func := "montage/montagelaw26.DiffTells", spec := "diffTells", inPlace := ["internal/abi.NoEscape", "internal/bytealg.CountString", "internal/bytealg.IndexByteString", "internal/bytealg.IndexString"], unfollowed := true, recurses := true, named := ["unicode/utf8.first", "unicode/utf8.acceptRanges", "internal/bytealg.MaxLen"], apart := false, laid := [("unicode/utf8.acceptRanges", laid_unicode_utf8_acceptRanges), ("unicode/utf8.first", laid_unicode_utf8_first)] }
def DiffTellsSaid : Prop := diffTellsRow.holds Tryz.pinned (OpenSpec.ofChange diffTellsSpec)

/-- ITS FALSE NEIGHBOUR: 'it returns false'. Refute it at one input. -/
def diffTellsWrong : ChangeSpec := { name := "diffTells", fn := fun _ => fun
  | [d1, d2] => { results := [.lit (.bool false)], args := [d1, d2] }
  | _ => none }
def DiffTellsWrongFalsely : Prop := diffTellsRow.holds Tryz.pinned (OpenSpec.ofChange diffTellsWrong)

/-- 'montagelaw26.DiffLeads': WHATEVER THE INPUT: true; the input reads as it did. -/
def diffLeadsSpec : ChangeSpec := { name := "diffLeads", fn := fun _ => fun
  | [d1, d2] => { results := [.lit (.bool true)], args := [d1, d2] }
  | _ => none }
def diffLeadsRow : OpenClaim := { program := "ytbkbpdpegiekhaagreatdoor", sum := "2455c5230e563c3b26396312a3e6e44d165aa0d0223f662dcc63e8fef856ae13", func := "montage/montagelaw26.DiffLeads", spec := "diffLeads", inPlace := ["internal/abi.NoEscape", "internal/bytealg.CountString", "internal/bytealg.IndexByteString", "internal/bytealg.IndexString"], unfollowed := true, recurses := true, named := ["unicode/utf8.first", "unicode/utf8.acceptRanges", "internal/bytealg.MaxLen"], apart := false, laid := [("unicode/utf8.acceptRanges", laid_unicode_utf8_acceptRanges), ("unicode/utf8.first", laid_unicode_utf8_first)] }
def DiffLeadsSaid : Prop := diffLeadsRow.holds Tryz.pinned (OpenSpec.ofChange diffLeadsSpec)

/-- ITS FALSE NEIGHBOUR: 'it returns false'. Refute it at one input. -/
def diffLeadsWrong : ChangeSpec := { name := "diffLeads", fn := fun _ => fun
  | [d1, d2] => { results := [.lit (.bool false)], args := [d1, d2] }
  | _ => none }
def DiffLeadsWrongFalsely : Prop := diffLeadsRow.holds Tryz.pinned (OpenSpec.ofChange diffLeadsWrong)

/-- 'montagelaw26.DiffLeast': WHATEVER THE INPUT: true; the input reads as it did. -/
def diffLeastSpec : ChangeSpec := { name := "diffLeast", fn := fun _ => fun
  | [d1, d2] => { results := [.lit (.bool true)], args := [d1, d2] }
  | _ => none }
def diffLeastRow : OpenClaim := { program := "ytbkbpdpegiekhaagreatdoor", sum := "2455c5230e563c3b26396312a3e6e44d165aa0d0223f662dcc63e8fef856ae13", func := "montage/montagelaw26.DiffLeast", spec := "diffLeast", inPlace := ["internal/abi.NoEscape", "internal/bytealg.CountString", "internal/bytealg.IndexByteString", "internal/bytealg.IndexString"], unfollowed := true, recurses := true, named := ["unicode/utf8.first", "unicode/utf8.acceptRanges", "internal/bytealg.MaxLen"], apart := false, laid := [("unicode/utf8.acceptRanges", laid_unicode_utf8_acceptRanges), ("unicode/utf8.first", laid_unicode_utf8_first)] }
def DiffLeastSaid : Prop := diffLeastRow.holds Tryz.pinned (OpenSpec.ofChange diffLeastSpec)

/-- ITS FALSE NEIGHBOUR: 'it returns false'. Refute it at one input. -/
def diffLeastWrong : ChangeSpec := { name := "diffLeast", fn := fun _ => fun
  | [d1, d2] => { results := [.lit (.bool false)], args := [d1, d2] }
  | _ => none }
def DiffLeastWrongFalsely : Prop := diffLeastRow.holds Tryz.pinned (OpenSpec.ofChange diffLeastWrong)

/-- 'montagelaw26.DiffThere': WHATEVER THE INPUT: true; the input reads as it did. -/
def diffThereSpec : ChangeSpec := { name := "diffThere", fn := fun _ => fun
  | [d1, d2] => { results := [.lit (.bool true)], args := [d1, d2] }
  | _ => none }
def diffThereRow : OpenClaim := { program := "ytbkbpdpegiekhaagreatdoor", sum := "2455c5230e563c3b26396312a3e6e44d165aa0d0223f662dcc63e8fef856ae13", func := "montage/montagelaw26.DiffThere", spec := "diffThere", inPlace := ["internal/abi.NoEscape", "internal/bytealg.CountString", "internal/bytealg.IndexByteString", "internal/bytealg.IndexString"], unfollowed := true, recurses := true, named := ["unicode/utf8.first", "unicode/utf8.acceptRanges", "internal/bytealg.MaxLen"], apart := false, laid := [("unicode/utf8.acceptRanges", laid_unicode_utf8_acceptRanges), ("unicode/utf8.first", laid_unicode_utf8_first)] }
def DiffThereSaid : Prop := diffThereRow.holds Tryz.pinned (OpenSpec.ofChange diffThereSpec)

/-- ITS FALSE NEIGHBOUR: 'it returns false'. Refute it at one input. -/
def diffThereWrong : ChangeSpec := { name := "diffThere", fn := fun _ => fun
  | [d1, d2] => { results := [.lit (.bool false)], args := [d1, d2] }
  | _ => none }
def DiffThereWrongFalsely : Prop := diffThereRow.holds Tryz.pinned (OpenSpec.ofChange diffThereWrong)

/-- 'montagelaw38.FilterLayers': WHATEVER THE INPUT: true; the input reads as it did. -/
def filterLayersSpec : ChangeSpec := { name := "filterLayers", fn := fun _ => fun
  | [d1, d2, d3] => { results := [.lit (.bool true)], args := [d1, d2, d3] }
  | _ => none }
def filterLayersRow : OpenClaim := { program := "ytbkbpdpegiekhaagreatdoor", sum := "2455c5230e563c3b26396312a3e6e44d165aa0d0223f662dcc63e8fef856ae13", func := "montage/montagelaw38.FilterLayers", spec := "filterLayers", inPlace := ["internal/bytealg.IndexByteString", "internal/bytealg.IndexString", "internal/bytealg.CountString", "internal/abi.NoEscape"], unfollowed := true, recurses := true, named := ["unicode/utf8.first", "unicode/utf8.acceptRanges", "internal/bytealg.MaxLen"], apart := false, laid := [("unicode/utf8.acceptRanges", laid_unicode_utf8_acceptRanges), ("unicode/utf8.first", laid_unicode_utf8_first)] }
def FilterLayersSaid : Prop := filterLayersRow.holds Tryz.pinned (OpenSpec.ofChange filterLayersSpec)

/-- ITS FALSE NEIGHBOUR: 'it returns false'. Refute it at one input. -/
def filterLayersWrong : ChangeSpec := { name := "filterLayers", fn := fun _ => fun
  | [d1, d2, d3] => { results := [.lit (.bool false)], args := [d1, d2, d3] }
  | _ => none }
def FilterLayersWrongFalsely : Prop := filterLayersRow.holds Tryz.pinned (OpenSpec.ofChange filterLayersWrong)

/-- 'montagelaw38.FilterTrees': WHATEVER THE INPUT: true; the input reads as it did. -/
def filterTreesSpec : ChangeSpec := { name := "filterTrees", fn := fun _ => fun
  | [d1, d2] => { results := [.lit (.bool true)], args := [d1, d2] }
  | _ => none }
def filterTreesRow : OpenClaim := { program := "ytbkbpdpegiekhaagreatdoor", sum := "2455c5230e563c3b26396312a3e6e44d165aa0d0223f662dcc63e8fef856ae13", func := "montage/montagelaw38.FilterTrees", spec := "filterTrees", inPlace := ["internal/bytealg.IndexByteString", "internal/bytealg.IndexString", "internal/bytealg.CountString", "internal/abi.NoEscape"], unfollowed := true, recurses := true, named := ["unicode/utf8.first", "unicode/utf8.acceptRanges", "internal/bytealg.MaxLen"], apart := false, laid := [("unicode/utf8.acceptRanges", laid_unicode_utf8_acceptRanges), ("unicode/utf8.first", laid_unicode_utf8_first)] }
def FilterTreesSaid : Prop := filterTreesRow.holds Tryz.pinned (OpenSpec.ofChange filterTreesSpec)

/-- ITS FALSE NEIGHBOUR: 'it returns false'. Refute it at one input. -/
def filterTreesWrong : ChangeSpec := { name := "filterTrees", fn := fun _ => fun
  | [d1, d2] => { results := [.lit (.bool false)], args := [d1, d2] }
  | _ => none }
def FilterTreesWrongFalsely : Prop := filterTreesRow.holds Tryz.pinned (OpenSpec.ofChange filterTreesWrong)

/-- 'montagelaw38.FilterParses': WHATEVER THE INPUT: true; the input reads as it did. -/
def filterParsesSpec : ChangeSpec := { name := "filterParses", fn := fun _ => fun
  | [d] => { results := [.lit (.bool true)], args := [d] }
  | _ => none }
def filterParsesRow : OpenClaim := { program := "ytbkbpdpegiekhaagreatdoor", sum := "2455c5230e563c3b26396312a3e6e44d165aa0d0223f662dcc63e8fef856ae13", func := "montage/montagelaw38.FilterParses", spec := "filterParses", inPlace := ["internal/bytealg.IndexByteString", "internal/bytealg.IndexString", "internal/bytealg.CountString", "internal/abi.NoEscape"], unfollowed := true, recurses := true, named := ["unicode/utf8.first", "unicode/utf8.acceptRanges", "internal/bytealg.MaxLen"], apart := false, laid := [("unicode/utf8.acceptRanges", laid_unicode_utf8_acceptRanges), ("unicode/utf8.first", laid_unicode_utf8_first)] }
def FilterParsesSaid : Prop := filterParsesRow.holds Tryz.pinned (OpenSpec.ofChange filterParsesSpec)

/-- ITS FALSE NEIGHBOUR: 'it returns false'. Refute it at one input. -/
def filterParsesWrong : ChangeSpec := { name := "filterParses", fn := fun _ => fun
  | [d] => { results := [.lit (.bool false)], args := [d] }
  | _ => none }
def FilterParsesWrongFalsely : Prop := filterParsesRow.holds Tryz.pinned (OpenSpec.ofChange filterParsesWrong)

/-- 'montagelaw24.ApplyPaths': WHATEVER THE INPUT: true; the input reads as it did. -/
def applyPathsSpec : ChangeSpec := { name := "applyPaths", fn := fun _ => fun
  | [d1, d2, d3] => { results := [.lit (.bool true)], args := [d1, d2, d3] }
  | _ => none }
def applyPathsRow : OpenClaim := { program := "ytbkbpdpegiekhaagreatdoor", sum := "2455c5230e563c3b26396312a3e6e44d165aa0d0223f662dcc63e8fef856ae13", func := "montage/montagelaw24.ApplyPaths", spec := "applyPaths", inPlace := ["internal/abi.NoEscape", "internal/bytealg.CountString", "internal/bytealg.IndexByteString", "internal/bytealg.IndexString", "slices.overlaps[montage/api.Node]"], unfollowed := true, recurses := true, named := ["unicode/utf8.first", "unicode/utf8.acceptRanges", "internal/bytealg.MaxLen"], apart := false, laid := [("unicode/utf8.acceptRanges", laid_unicode_utf8_acceptRanges), ("unicode/utf8.first", laid_unicode_utf8_first)] }
def ApplyPathsSaid : Prop := applyPathsRow.holds Tryz.pinned (OpenSpec.ofChange applyPathsSpec)

/-- ITS FALSE NEIGHBOUR: 'it returns false'. Refute it at one input. -/
def applyPathsWrong : ChangeSpec := { name := "applyPaths", fn := fun _ => fun
  | [d1, d2, d3] => { results := [.lit (.bool false)], args := [d1, d2, d3] }
  | _ => none }
def ApplyPathsWrongFalsely : Prop := applyPathsRow.holds Tryz.pinned (OpenSpec.ofChange applyPathsWrong)

/-- 'montagelaw24.ApplyTwice': WHATEVER THE INPUT: true; the input reads as it did. -/
def applyTwiceSpec : ChangeSpec := { name := "applyTwice", fn := fun _ => fun
  | [d1, d2] => { results := [.lit (.bool true)], args := [d1, d2] }
  | _ => none }
def applyTwiceRow : OpenClaim := { program := "ytbkbpdpegiekhaagreatdoor", sum := "2455c5230e563c3b26396312a3e6e44d165aa0d0223f662dcc63e8fef856ae13", func := "montage/montagelaw24.ApplyTwice", spec := "applyTwice", inPlace := ["internal/abi.NoEscape", "internal/bytealg.CountString", "internal/bytealg.IndexByteString", "internal/bytealg.IndexString", "slices.overlaps[montage/api.Node]"], unfollowed := true, recurses := true, named := ["unicode/utf8.first", "unicode/utf8.acceptRanges", "internal/bytealg.MaxLen"], apart := false, laid := [("unicode/utf8.acceptRanges", laid_unicode_utf8_acceptRanges), ("unicode/utf8.first", laid_unicode_utf8_first)] }
def ApplyTwiceSaid : Prop := applyTwiceRow.holds Tryz.pinned (OpenSpec.ofChange applyTwiceSpec)

/-- ITS FALSE NEIGHBOUR: 'it returns false'. Refute it at one input. -/
def applyTwiceWrong : ChangeSpec := { name := "applyTwice", fn := fun _ => fun
  | [d1, d2] => { results := [.lit (.bool false)], args := [d1, d2] }
  | _ => none }
def ApplyTwiceWrongFalsely : Prop := applyTwiceRow.holds Tryz.pinned (OpenSpec.ofChange applyTwiceWrong)

/-- 'montagelaw24.ApplyClears': WHATEVER THE INPUT: true; the input reads as it did. -/
def applyClearsSpec : ChangeSpec := { name := "applyClears", fn := fun _ => fun
  | [d1, d2, d3] => { results := [.lit (.bool true)], args := [d1, d2, d3] }
  | _ => none }
def applyClearsRow : OpenClaim := { program := "ytbkbpdpegiekhaagreatdoor", sum := "2455c5230e563c3b26396312a3e6e44d165aa0d0223f662dcc63e8fef856ae13", func := "montage/montagelaw24.ApplyClears", spec := "applyClears", inPlace := ["internal/abi.NoEscape", "internal/bytealg.CountString", "internal/bytealg.IndexByteString", "internal/bytealg.IndexString", "slices.overlaps[montage/api.Node]"], unfollowed := true, recurses := true, named := ["unicode/utf8.first", "unicode/utf8.acceptRanges", "internal/bytealg.MaxLen"], apart := false, laid := [("unicode/utf8.acceptRanges", laid_unicode_utf8_acceptRanges), ("unicode/utf8.first", laid_unicode_utf8_first)] }
def ApplyClearsSaid : Prop := applyClearsRow.holds Tryz.pinned (OpenSpec.ofChange applyClearsSpec)

/-- ITS FALSE NEIGHBOUR: 'it returns false'. Refute it at one input. -/
def applyClearsWrong : ChangeSpec := { name := "applyClears", fn := fun _ => fun
  | [d1, d2, d3] => { results := [.lit (.bool false)], args := [d1, d2, d3] }
  | _ => none }
def ApplyClearsWrongFalsely : Prop := applyClearsRow.holds Tryz.pinned (OpenSpec.ofChange applyClearsWrong)

/-- 'montagelaw24.ApplyRows': WHATEVER THE INPUT: true; the input reads as it did. -/
def applyRowsSpec : ChangeSpec := { name := "applyRows", fn := fun _ => fun
  | [d1, d2] => { results := [.lit (.bool true)], args := [d1, d2] }
  | _ => none }
def applyRowsRow : OpenClaim := { program := "ytbkbpdpegiekhaagreatdoor", sum := "2455c5230e563c3b26396312a3e6e44d165aa0d0223f662dcc63e8fef856ae13", func := "montage/montagelaw24.ApplyRows", spec := "applyRows", inPlace := ["internal/abi.NoEscape", "internal/bytealg.CountString", "internal/bytealg.IndexByteString", "internal/bytealg.IndexString", "slices.overlaps[montage/api.Node]"], unfollowed := true, recurses := true, named := ["unicode/utf8.first", "unicode/utf8.acceptRanges", "internal/bytealg.MaxLen"], apart := false, laid := [("unicode/utf8.acceptRanges", laid_unicode_utf8_acceptRanges), ("unicode/utf8.first", laid_unicode_utf8_first)] }
def ApplyRowsSaid : Prop := applyRowsRow.holds Tryz.pinned (OpenSpec.ofChange applyRowsSpec)

/-- ITS FALSE NEIGHBOUR: 'it returns false'. Refute it at one input. -/
def applyRowsWrong : ChangeSpec := { name := "applyRows", fn := fun _ => fun
  | [d1, d2] => { results := [.lit (.bool false)], args := [d1, d2] }
  | _ => none }
def ApplyRowsWrongFalsely : Prop := applyRowsRow.holds Tryz.pinned (OpenSpec.ofChange applyRowsWrong)

/-- 'montagelaw43.HistoryBack': WHATEVER THE INPUT: true; the input reads as it did. -/
def historyBackSpec : ChangeSpec := { name := "historyBack", fn := fun _ => fun
  | [d1, d2] => { results := [.lit (.bool true)], args := [d1, d2] }
  | _ => none }
def historyBackRow : OpenClaim := { program := "ytbkbpdpegiekhaagreatdoor", sum := "2455c5230e563c3b26396312a3e6e44d165aa0d0223f662dcc63e8fef856ae13", func := "montage/montagelaw43.HistoryBack", spec := "historyBack", inPlace := ["internal/abi.NoEscape", "internal/bytealg.CountString", "internal/bytealg.IndexByteString", "internal/bytealg.IndexString", "slices.overlaps[montage/api.Node]"], unfollowed := true, recurses := true, named := ["unicode/utf8.first", "unicode/utf8.acceptRanges", "internal/bytealg.MaxLen"], apart := false, laid := [("unicode/utf8.acceptRanges", laid_unicode_utf8_acceptRanges), ("unicode/utf8.first", laid_unicode_utf8_first)] }
def HistoryBackSaid : Prop := historyBackRow.holds Tryz.pinned (OpenSpec.ofChange historyBackSpec)

/-- ITS FALSE NEIGHBOUR: 'it returns false'. Refute it at one input. -/
def historyBackWrong : ChangeSpec := { name := "historyBack", fn := fun _ => fun
  | [d1, d2] => { results := [.lit (.bool false)], args := [d1, d2] }
  | _ => none }
def HistoryBackWrongFalsely : Prop := historyBackRow.holds Tryz.pinned (OpenSpec.ofChange historyBackWrong)

/-- 'montagelaw43.HistoryRuns': WHATEVER THE INPUT: true; the input reads as it did. -/
def historyRunsSpec : ChangeSpec := { name := "historyRuns", fn := fun _ => fun
  | [d1, d2] => { results := [.lit (.bool true)], args := [d1, d2] }
  | _ => none }
def historyRunsRow : OpenClaim := { program := "ytbkbpdpegiekhaagreatdoor", sum := "2455c5230e563c3b26396312a3e6e44d165aa0d0223f662dcc63e8fef856ae13", func := "montage/montagelaw43.HistoryRuns", spec := "historyRuns", inPlace := ["internal/abi.NoEscape", "internal/bytealg.CountString", "internal/bytealg.IndexByteString", "internal/bytealg.IndexString", "slices.overlaps[montage/api.Node]"], unfollowed := true, recurses := true, named := ["unicode/utf8.first", "unicode/utf8.acceptRanges", "internal/bytealg.MaxLen"], apart := false, laid := [("unicode/utf8.acceptRanges", laid_unicode_utf8_acceptRanges), ("unicode/utf8.first", laid_unicode_utf8_first)] }
def HistoryRunsSaid : Prop := historyRunsRow.holds Tryz.pinned (OpenSpec.ofChange historyRunsSpec)

/-- ITS FALSE NEIGHBOUR: 'it returns false'. Refute it at one input. -/
def historyRunsWrong : ChangeSpec := { name := "historyRuns", fn := fun _ => fun
  | [d1, d2] => { results := [.lit (.bool false)], args := [d1, d2] }
  | _ => none }
def HistoryRunsWrongFalsely : Prop := historyRunsRow.holds Tryz.pinned (OpenSpec.ofChange historyRunsWrong)

/-- 'montagelaw43.HistoryNone': WHATEVER THE INPUT: true; the input reads as it did. -/
def historyNoneSpec : ChangeSpec := { name := "historyNone", fn := fun _ => fun
  | [d1, d2, d3] => { results := [.lit (.bool true)], args := [d1, d2, d3] }
  | _ => none }
def historyNoneRow : OpenClaim := { program := "ytbkbpdpegiekhaagreatdoor", sum := "2455c5230e563c3b26396312a3e6e44d165aa0d0223f662dcc63e8fef856ae13", func := "montage/montagelaw43.HistoryNone", spec := "historyNone", inPlace := ["internal/abi.NoEscape", "internal/bytealg.CountString", "internal/bytealg.IndexByteString", "internal/bytealg.IndexString", "slices.overlaps[montage/api.Node]"], unfollowed := true, recurses := true, named := ["unicode/utf8.first", "unicode/utf8.acceptRanges", "internal/bytealg.MaxLen"], apart := false, laid := [("unicode/utf8.acceptRanges", laid_unicode_utf8_acceptRanges), ("unicode/utf8.first", laid_unicode_utf8_first)] }
def HistoryNoneSaid : Prop := historyNoneRow.holds Tryz.pinned (OpenSpec.ofChange historyNoneSpec)

/-- ITS FALSE NEIGHBOUR: 'it returns false'. Refute it at one input. -/
def historyNoneWrong : ChangeSpec := { name := "historyNone", fn := fun _ => fun
  | [d1, d2, d3] => { results := [.lit (.bool false)], args := [d1, d2, d3] }
  | _ => none }
def HistoryNoneWrongFalsely : Prop := historyNoneRow.holds Tryz.pinned (OpenSpec.ofChange historyNoneWrong)

/-- 'montagelaw44.PruneDoes': WHATEVER THE INPUT: true; the input reads as it did. -/
def pruneDoesSpec : ChangeSpec := { name := "pruneDoes", fn := fun _ => fun
  | [d1, d2] => { results := [.lit (.bool true)], args := [d1, d2] }
  | _ => none }
def pruneDoesRow : OpenClaim := { program := "ytbkbpdpegiekhaagreatdoor", sum := "2455c5230e563c3b26396312a3e6e44d165aa0d0223f662dcc63e8fef856ae13", func := "montage/montagelaw44.PruneDoes", spec := "pruneDoes", inPlace := ["internal/abi.NoEscape", "internal/bytealg.CountString", "internal/bytealg.IndexByteString", "internal/bytealg.IndexString", "slices.overlaps[montage/api.Node]"], unfollowed := true, recurses := true, named := ["unicode/utf8.first", "unicode/utf8.acceptRanges", "internal/bytealg.MaxLen"], apart := false, laid := [("unicode/utf8.acceptRanges", laid_unicode_utf8_acceptRanges), ("unicode/utf8.first", laid_unicode_utf8_first)] }
def PruneDoesSaid : Prop := pruneDoesRow.holds Tryz.pinned (OpenSpec.ofChange pruneDoesSpec)

/-- ITS FALSE NEIGHBOUR: 'it returns false'. Refute it at one input. -/
def pruneDoesWrong : ChangeSpec := { name := "pruneDoes", fn := fun _ => fun
  | [d1, d2] => { results := [.lit (.bool false)], args := [d1, d2] }
  | _ => none }
def PruneDoesWrongFalsely : Prop := pruneDoesRow.holds Tryz.pinned (OpenSpec.ofChange pruneDoesWrong)

/-- 'montagelaw44.PruneIdle': WHATEVER THE INPUT: true; the input reads as it did. -/
def pruneIdleSpec : ChangeSpec := { name := "pruneIdle", fn := fun _ => fun
  | [d1, d2] => { results := [.lit (.bool true)], args := [d1, d2] }
  | _ => none }
def pruneIdleRow : OpenClaim := { program := "ytbkbpdpegiekhaagreatdoor", sum := "2455c5230e563c3b26396312a3e6e44d165aa0d0223f662dcc63e8fef856ae13", func := "montage/montagelaw44.PruneIdle", spec := "pruneIdle", inPlace := ["internal/abi.NoEscape", "internal/bytealg.CountString", "internal/bytealg.IndexByteString", "internal/bytealg.IndexString", "slices.overlaps[montage/api.Node]"], unfollowed := true, recurses := true, named := ["unicode/utf8.first", "unicode/utf8.acceptRanges", "internal/bytealg.MaxLen"], apart := false, laid := [("unicode/utf8.acceptRanges", laid_unicode_utf8_acceptRanges), ("unicode/utf8.first", laid_unicode_utf8_first)] }
def PruneIdleSaid : Prop := pruneIdleRow.holds Tryz.pinned (OpenSpec.ofChange pruneIdleSpec)

/-- ITS FALSE NEIGHBOUR: 'it returns false'. Refute it at one input. -/
def pruneIdleWrong : ChangeSpec := { name := "pruneIdle", fn := fun _ => fun
  | [d1, d2] => { results := [.lit (.bool false)], args := [d1, d2] }
  | _ => none }
def PruneIdleWrongFalsely : Prop := pruneIdleRow.holds Tryz.pinned (OpenSpec.ofChange pruneIdleWrong)

/-- 'montagelaw44.PruneLeast': WHATEVER THE INPUT: true; the input reads as it did. -/
def pruneLeastSpec : ChangeSpec := { name := "pruneLeast", fn := fun _ => fun
  | [d1, d2] => { results := [.lit (.bool true)], args := [d1, d2] }
  | _ => none }
def pruneLeastRow : OpenClaim := { program := "ytbkbpdpegiekhaagreatdoor", sum := "2455c5230e563c3b26396312a3e6e44d165aa0d0223f662dcc63e8fef856ae13", func := "montage/montagelaw44.PruneLeast", spec := "pruneLeast", inPlace := ["internal/abi.NoEscape", "internal/bytealg.CountString", "internal/bytealg.IndexByteString", "internal/bytealg.IndexString", "slices.overlaps[montage/api.Node]"], unfollowed := true, recurses := true, named := ["unicode/utf8.first", "unicode/utf8.acceptRanges", "internal/bytealg.MaxLen"], apart := false, laid := [("unicode/utf8.acceptRanges", laid_unicode_utf8_acceptRanges), ("unicode/utf8.first", laid_unicode_utf8_first)] }
def PruneLeastSaid : Prop := pruneLeastRow.holds Tryz.pinned (OpenSpec.ofChange pruneLeastSpec)

/-- ITS FALSE NEIGHBOUR: 'it returns false'. Refute it at one input. -/
def pruneLeastWrong : ChangeSpec := { name := "pruneLeast", fn := fun _ => fun
  | [d1, d2] => { results := [.lit (.bool false)], args := [d1, d2] }
  | _ => none }
def PruneLeastWrongFalsely : Prop := pruneLeastRow.holds Tryz.pinned (OpenSpec.ofChange pruneLeastWrong)

/- THE SECOND FORM. 'bulk': how many values and letters a reading holds, each counted each time it is reached (what is shared counts as often as it is met; a slice's spare places count too). A statement '..UptoSaid' is the law's where the arguments, and the package variables that the reading takes, are together of bulk at most 1048576: NARROWER than '..Said'. Prove '..Said' where nothing that the law and all that it calls make is longer than what came in: it says more and counts as full. Else prove '..UptoSaid'. A law counts once. -/
mutual
def uptoBulk {H : Type} : DataW H → Nat
  | .lit (.string bytes) => bytes.length + 1
  | .lit _ => 1
  | .nil => 1
  | .ptr d => uptoBulk d + 1
  | .slice elems spare => uptoBulkAll elems + uptoBulkAll spare + 1
  | .agg parts => uptoBulkAll parts + 1
  | .iface _ d => uptoBulk d + 1
  | .map entries => uptoBulkEntries entries + 1
  | .held _ => 1
def uptoBulkAll {H : Type} : List (DataW H) → Nat
  | [] => 0
  | d :: r => uptoBulk d + uptoBulkAll r
def uptoBulkEntries {H : Type} : List (Lit × DataW H) → Nat
  | [] => 0
  | x :: r => uptoBulkEntry x + uptoBulkEntries r
def uptoBulkEntry {H : Type} : Lit × DataW H → Nat
  | (.string bytes, d) => bytes.length + uptoBulk d + 1
  | (_, d) => uptoBulk d + 1
 end
def uptoSmall : (H : Type) → List (DataW H) → Bool := fun _ ds => decide (uptoBulkAll ds ≤ 1048576)
def OpenSpec.upto (s : _root_.Go.ChangeSpec) : _root_.Go.OpenSpec := { _root_.Go.OpenSpec.ofChange s with cond := some uptoSmall }

/-- 'montagelaw25.SquashEmpty', WHERE WHAT IT READS IS OF BULK AT MOST 1048576: true; the input reads as it did. -/
def squashEmptyUptoRow : OpenClaim := { program := "ytbkbpdpegiekhaagreatdoor", sum := "2455c5230e563c3b26396312a3e6e44d165aa0d0223f662dcc63e8fef856ae13", func := "montage/montagelaw25.SquashEmpty", spec := "squashEmpty", inPlace := ["internal/bytealg.CountString", "internal/bytealg.IndexByteString", "internal/bytealg.IndexString", "internal/abi.NoEscape"], unfollowed := true, recurses := true, named := ["unicode/utf8.first", "unicode/utf8.acceptRanges", "internal/bytealg.MaxLen"], apart := false, laid := [("unicode/utf8.acceptRanges", laid_unicode_utf8_acceptRanges), ("unicode/utf8.first", laid_unicode_utf8_first)], narrowed := true }
def SquashEmptyUptoSaid : Prop := squashEmptyUptoRow.holds Tryz.pinned (OpenSpec.upto squashEmptySpec)

/-- 'montagelaw26.DiffTells', WHERE WHAT IT READS IS OF BULK AT MOST 1048576: true; the input reads as it did. -/
def diffTellsUptoRow : OpenClaim := { program := "ytbkbpdpegiekhaagreatdoor", sum := "2455c5230e563c3b26396312a3e6e44d165aa0d0223f662dcc63e8fef856ae13", func := "montage/montagelaw26.DiffTells", spec := "diffTells", inPlace := ["internal/abi.NoEscape", "internal/bytealg.CountString", "internal/bytealg.IndexByteString", "internal/bytealg.IndexString"], unfollowed := true, recurses := true, named := ["unicode/utf8.first", "unicode/utf8.acceptRanges", "internal/bytealg.MaxLen"], apart := false, laid := [("unicode/utf8.acceptRanges", laid_unicode_utf8_acceptRanges), ("unicode/utf8.first", laid_unicode_utf8_first)], narrowed := true }
def DiffTellsUptoSaid : Prop := diffTellsUptoRow.holds Tryz.pinned (OpenSpec.upto diffTellsSpec)

/-- 'montagelaw26.DiffLeads', WHERE WHAT IT READS IS OF BULK AT MOST 1048576: true; the input reads as it did. -/
def diffLeadsUptoRow : OpenClaim := { program := "ytbkbpdpegiekhaagreatdoor", sum := "2455c5230e563c3b26396312a3e6e44d165aa0d0223f662dcc63e8fef856ae13", func := "montage/montagelaw26.DiffLeads", spec := "diffLeads", inPlace := ["internal/abi.NoEscape", "internal/bytealg.CountString", "internal/bytealg.IndexByteString", "internal/bytealg.IndexString"], unfollowed := true, recurses := true, named := ["unicode/utf8.first", "unicode/utf8.acceptRanges", "internal/bytealg.MaxLen"], apart := false, laid := [("unicode/utf8.acceptRanges", laid_unicode_utf8_acceptRanges), ("unicode/utf8.first", laid_unicode_utf8_first)], narrowed := true }
def DiffLeadsUptoSaid : Prop := diffLeadsUptoRow.holds Tryz.pinned (OpenSpec.upto diffLeadsSpec)

/-- 'montagelaw26.DiffLeast', WHERE WHAT IT READS IS OF BULK AT MOST 1048576: true; the input reads as it did. -/
def diffLeastUptoRow : OpenClaim := { program := "ytbkbpdpegiekhaagreatdoor", sum := "2455c5230e563c3b26396312a3e6e44d165aa0d0223f662dcc63e8fef856ae13", func := "montage/montagelaw26.DiffLeast", spec := "diffLeast", inPlace := ["internal/abi.NoEscape", "internal/bytealg.CountString", "internal/bytealg.IndexByteString", "internal/bytealg.IndexString"], unfollowed := true, recurses := true, named := ["unicode/utf8.first", "unicode/utf8.acceptRanges", "internal/bytealg.MaxLen"], apart := false, laid := [("unicode/utf8.acceptRanges", laid_unicode_utf8_acceptRanges), ("unicode/utf8.first", laid_unicode_utf8_first)], narrowed := true }
def DiffLeastUptoSaid : Prop := diffLeastUptoRow.holds Tryz.pinned (OpenSpec.upto diffLeastSpec)

/-- 'montagelaw26.DiffThere', WHERE WHAT IT READS IS OF BULK AT MOST 1048576: true; the input reads as it did. -/
def diffThereUptoRow : OpenClaim := { program := "ytbkbpdpegiekhaagreatdoor", sum := "2455c5230e563c3b26396312a3e6e44d165aa0d0223f662dcc63e8fef856ae13", func := "montage/montagelaw26.DiffThere", spec := "diffThere", inPlace := ["internal/abi.NoEscape", "internal/bytealg.CountString", "internal/bytealg.IndexByteString", "internal/bytealg.IndexString"], unfollowed := true, recurses := true, named := ["unicode/utf8.first", "unicode/utf8.acceptRanges", "internal/bytealg.MaxLen"], apart := false, laid := [("unicode/utf8.acceptRanges", laid_unicode_utf8_acceptRanges), ("unicode/utf8.first", laid_unicode_utf8_first)], narrowed := true }
def DiffThereUptoSaid : Prop := diffThereUptoRow.holds Tryz.pinned (OpenSpec.upto diffThereSpec)

/-- 'montagelaw38.FilterLayers', WHERE WHAT IT READS IS OF BULK AT MOST 1048576: true; the input reads as it did. -/
def filterLayersUptoRow : OpenClaim := { program := "ytbkbpdpegiekhaagreatdoor", sum := "2455c5230e563c3b26396312a3e6e44d165aa0d0223f662dcc63e8fef856ae13", func := "montage/montagelaw38.FilterLayers", spec := "filterLayers", inPlace := ["internal/bytealg.IndexByteString", "internal/bytealg.IndexString", "internal/bytealg.CountString", "internal/abi.NoEscape"], unfollowed := true, recurses := true, named := ["unicode/utf8.first", "unicode/utf8.acceptRanges", "internal/bytealg.MaxLen"], apart := false, laid := [("unicode/utf8.acceptRanges", laid_unicode_utf8_acceptRanges), ("unicode/utf8.first", laid_unicode_utf8_first)], narrowed := true }
def FilterLayersUptoSaid : Prop := filterLayersUptoRow.holds Tryz.pinned (OpenSpec.upto filterLayersSpec)

/-- 'montagelaw38.FilterTrees', WHERE WHAT IT READS IS OF BULK AT MOST 1048576: true; the input reads as it did. -/
def filterTreesUptoRow : OpenClaim := { program := "ytbkbpdpegiekhaagreatdoor", sum := "2455c5230e563c3b26396312a3e6e44d165aa0d0223f662dcc63e8fef856ae13", func := "montage/montagelaw38.FilterTrees", spec := "filterTrees", inPlace := ["internal/bytealg.IndexByteString", "internal/bytealg.IndexString", "internal/bytealg.CountString", "internal/abi.NoEscape"], unfollowed := true, recurses := true, named := ["unicode/utf8.first", "unicode/utf8.acceptRanges", "internal/bytealg.MaxLen"], apart := false, laid := [("unicode/utf8.acceptRanges", laid_unicode_utf8_acceptRanges), ("unicode/utf8.first", laid_unicode_utf8_first)], narrowed := true }
def FilterTreesUptoSaid : Prop := filterTreesUptoRow.holds Tryz.pinned (OpenSpec.upto filterTreesSpec)

/-- 'montagelaw38.FilterParses', WHERE WHAT IT READS IS OF BULK AT MOST 1048576: true; the input reads as it did. -/
def filterParsesUptoRow : OpenClaim := { program := "ytbkbpdpegiekhaagreatdoor", sum := "2455c5230e563c3b26396312a3e6e44d165aa0d0223f662dcc63e8fef856ae13", func := "montage/montagelaw38.FilterParses", spec := "filterParses", inPlace := ["internal/bytealg.IndexByteString", "internal/bytealg.IndexString", "internal/bytealg.CountString", "internal/abi.NoEscape"], unfollowed := true, recurses := true, named := ["unicode/utf8.first", "unicode/utf8.acceptRanges", "internal/bytealg.MaxLen"], apart := false, laid := [("unicode/utf8.acceptRanges", laid_unicode_utf8_acceptRanges), ("unicode/utf8.first", laid_unicode_utf8_first)], narrowed := true }
def FilterParsesUptoSaid : Prop := filterParsesUptoRow.holds Tryz.pinned (OpenSpec.upto filterParsesSpec)

/-- 'montagelaw24.ApplyPaths', WHERE WHAT IT READS IS OF BULK AT MOST 1048576: true; the input reads as it did. -/
def applyPathsUptoRow : OpenClaim := { program := "ytbkbpdpegiekhaagreatdoor", sum := "2455c5230e563c3b26396312a3e6e44d165aa0d0223f662dcc63e8fef856ae13", func := "montage/montagelaw24.ApplyPaths", spec := "applyPaths", inPlace := ["internal/abi.NoEscape", "internal/bytealg.CountString", "internal/bytealg.IndexByteString", "internal/bytealg.IndexString", "slices.overlaps[montage/api.Node]"], unfollowed := true, recurses := true, named := ["unicode/utf8.first", "unicode/utf8.acceptRanges", "internal/bytealg.MaxLen"], apart := false, laid := [("unicode/utf8.acceptRanges", laid_unicode_utf8_acceptRanges), ("unicode/utf8.first", laid_unicode_utf8_first)], narrowed := true }
def ApplyPathsUptoSaid : Prop := applyPathsUptoRow.holds Tryz.pinned (OpenSpec.upto applyPathsSpec)

/-- 'montagelaw24.ApplyTwice', WHERE WHAT IT READS IS OF BULK AT MOST 1048576: true; the input reads as it did. -/
def applyTwiceUptoRow : OpenClaim := { program := "ytbkbpdpegiekhaagreatdoor", sum := "2455c5230e563c3b26396312a3e6e44d165aa0d0223f662dcc63e8fef856ae13", func := "montage/montagelaw24.ApplyTwice", spec := "applyTwice", inPlace := ["internal/abi.NoEscape", "internal/bytealg.CountString", "internal/bytealg.IndexByteString", "internal/bytealg.IndexString", "slices.overlaps[montage/api.Node]"], unfollowed := true, recurses := true, named := ["unicode/utf8.first", "unicode/utf8.acceptRanges", "internal/bytealg.MaxLen"], apart := false, laid := [("unicode/utf8.acceptRanges", laid_unicode_utf8_acceptRanges), ("unicode/utf8.first", laid_unicode_utf8_first)], narrowed := true }
def ApplyTwiceUptoSaid : Prop := applyTwiceUptoRow.holds Tryz.pinned (OpenSpec.upto applyTwiceSpec)

/-- 'montagelaw24.ApplyClears', WHERE WHAT IT READS IS OF BULK AT MOST 1048576: true; the input reads as it did. -/
def applyClearsUptoRow : OpenClaim := { program := "ytbkbpdpegiekhaagreatdoor", sum := "2455c5230e563c3b26396312a3e6e44d165aa0d0223f662dcc63e8fef856ae13", func := "montage/montagelaw24.ApplyClears", spec := "applyClears", inPlace := ["internal/abi.NoEscape", "internal/bytealg.CountString", "internal/bytealg.IndexByteString", "internal/bytealg.IndexString", "slices.overlaps[montage/api.Node]"], unfollowed := true, recurses := true, named := ["unicode/utf8.first", "unicode/utf8.acceptRanges", "internal/bytealg.MaxLen"], apart := false, laid := [("unicode/utf8.acceptRanges", laid_unicode_utf8_acceptRanges), ("unicode/utf8.first", laid_unicode_utf8_first)], narrowed := true }
def ApplyClearsUptoSaid : Prop := applyClearsUptoRow.holds Tryz.pinned (OpenSpec.upto applyClearsSpec)

/-- 'montagelaw24.ApplyRows', WHERE WHAT IT READS IS OF BULK AT MOST 1048576: true; the input reads as it did. -/
def applyRowsUptoRow : OpenClaim := { program := "ytbkbpdpegiekhaagreatdoor", sum := "2455c5230e563c3b26396312a3e6e44d165aa0d0223f662dcc63e8fef856ae13", func := "montage/montagelaw24.ApplyRows", spec := "applyRows", inPlace := ["internal/abi.NoEscape", "internal/bytealg.CountString", "internal/bytealg.IndexByteString", "internal/bytealg.IndexString", "slices.overlaps[montage/api.Node]"], unfollowed := true, recurses := true, named := ["unicode/utf8.first", "unicode/utf8.acceptRanges", "internal/bytealg.MaxLen"], apart := false, laid := [("unicode/utf8.acceptRanges", laid_unicode_utf8_acceptRanges), ("unicode/utf8.first", laid_unicode_utf8_first)], narrowed := true }
def ApplyRowsUptoSaid : Prop := applyRowsUptoRow.holds Tryz.pinned (OpenSpec.upto applyRowsSpec)

/-- 'montagelaw43.HistoryBack', WHERE WHAT IT READS IS OF BULK AT MOST 1048576: true; the input reads as it did. -/
def historyBackUptoRow : OpenClaim := { program := "ytbkbpdpegiekhaagreatdoor", sum := "2455c5230e563c3b26396312a3e6e44d165aa0d0223f662dcc63e8fef856ae13", func := "montage/montagelaw43.HistoryBack", spec := "historyBack", inPlace := ["internal/abi.NoEscape", "internal/bytealg.CountString", "internal/bytealg.IndexByteString", "internal/bytealg.IndexString", "slices.overlaps[montage/api.Node]"], unfollowed := true, recurses := true, named := ["unicode/utf8.first", "unicode/utf8.acceptRanges", "internal/bytealg.MaxLen"], apart := false, laid := [("unicode/utf8.acceptRanges", laid_unicode_utf8_acceptRanges), ("unicode/utf8.first", laid_unicode_utf8_first)], narrowed := true }
def HistoryBackUptoSaid : Prop := historyBackUptoRow.holds Tryz.pinned (OpenSpec.upto historyBackSpec)

/-- 'montagelaw43.HistoryRuns', WHERE WHAT IT READS IS OF BULK AT MOST 1048576: true; the input reads as it did. -/
def historyRunsUptoRow : OpenClaim := { program := "ytbkbpdpegiekhaagreatdoor", sum := "2455c5230e563c3b26396312a3e6e44d165aa0d0223f662dcc63e8fef856ae13", func := "montage/montagelaw43.HistoryRuns", spec := "historyRuns", inPlace := ["internal/abi.NoEscape", "internal/bytealg.CountString", "internal/bytealg.IndexByteString", "internal/bytealg.IndexString", "slices.overlaps[montage/api.Node]"], unfollowed := true, recurses := true, named := ["unicode/utf8.first", "unicode/utf8.acceptRanges", "internal/bytealg.MaxLen"], apart := false, laid := [("unicode/utf8.acceptRanges", laid_unicode_utf8_acceptRanges), ("unicode/utf8.first", laid_unicode_utf8_first)], narrowed := true }
def HistoryRunsUptoSaid : Prop := historyRunsUptoRow.holds Tryz.pinned (OpenSpec.upto historyRunsSpec)

/-- 'montagelaw43.HistoryNone', WHERE WHAT IT READS IS OF BULK AT MOST 1048576: true; the input reads as it did. -/
def historyNoneUptoRow : OpenClaim := { program := "ytbkbpdpegiekhaagreatdoor", sum := "2455c5230e563c3b26396312a3e6e44d165aa0d0223f662dcc63e8fef856ae13", func := "montage/montagelaw43.HistoryNone", spec := "historyNone", inPlace := ["internal/abi.NoEscape", "internal/bytealg.CountString", "internal/bytealg.IndexByteString", "internal/bytealg.IndexString", "slices.overlaps[montage/api.Node]"], unfollowed := true, recurses := true, named := ["unicode/utf8.first", "unicode/utf8.acceptRanges", "internal/bytealg.MaxLen"], apart := false, laid := [("unicode/utf8.acceptRanges", laid_unicode_utf8_acceptRanges), ("unicode/utf8.first", laid_unicode_utf8_first)], narrowed := true }
def HistoryNoneUptoSaid : Prop := historyNoneUptoRow.holds Tryz.pinned (OpenSpec.upto historyNoneSpec)

/-- 'montagelaw44.PruneDoes', WHERE WHAT IT READS IS OF BULK AT MOST 1048576: true; the input reads as it did. -/
def pruneDoesUptoRow : OpenClaim := { program := "ytbkbpdpegiekhaagreatdoor", sum := "2455c5230e563c3b26396312a3e6e44d165aa0d0223f662dcc63e8fef856ae13", func := "montage/montagelaw44.PruneDoes", spec := "pruneDoes", inPlace := ["internal/abi.NoEscape", "internal/bytealg.CountString", "internal/bytealg.IndexByteString", "internal/bytealg.IndexString", "slices.overlaps[montage/api.Node]"], unfollowed := true, recurses := true, named := ["unicode/utf8.first", "unicode/utf8.acceptRanges", "internal/bytealg.MaxLen"], apart := false, laid := [("unicode/utf8.acceptRanges", laid_unicode_utf8_acceptRanges), ("unicode/utf8.first", laid_unicode_utf8_first)], narrowed := true }
def PruneDoesUptoSaid : Prop := pruneDoesUptoRow.holds Tryz.pinned (OpenSpec.upto pruneDoesSpec)

/-- 'montagelaw44.PruneIdle', WHERE WHAT IT READS IS OF BULK AT MOST 1048576: true; the input reads as it did. -/
def pruneIdleUptoRow : OpenClaim := { program := "ytbkbpdpegiekhaagreatdoor", sum := "2455c5230e563c3b26396312a3e6e44d165aa0d0223f662dcc63e8fef856ae13", func := "montage/montagelaw44.PruneIdle", spec := "pruneIdle", inPlace := ["internal/abi.NoEscape", "internal/bytealg.CountString", "internal/bytealg.IndexByteString", "internal/bytealg.IndexString", "slices.overlaps[montage/api.Node]"], unfollowed := true, recurses := true, named := ["unicode/utf8.first", "unicode/utf8.acceptRanges", "internal/bytealg.MaxLen"], apart := false, laid := [("unicode/utf8.acceptRanges", laid_unicode_utf8_acceptRanges), ("unicode/utf8.first", laid_unicode_utf8_first)], narrowed := true }
def PruneIdleUptoSaid : Prop := pruneIdleUptoRow.holds Tryz.pinned (OpenSpec.upto pruneIdleSpec)

/-- 'montagelaw44.PruneLeast', WHERE WHAT IT READS IS OF BULK AT MOST 1048576: true; the input reads as it did. -/
def pruneLeastUptoRow : OpenClaim := { program := "ytbkbpdpegiekhaagreatdoor", sum := "2455c5230e563c3b26396312a3e6e44d165aa0d0223f662dcc63e8fef856ae13", func := "montage/montagelaw44.PruneLeast", spec := "pruneLeast", inPlace := ["internal/abi.NoEscape", "internal/bytealg.CountString", "internal/bytealg.IndexByteString", "internal/bytealg.IndexString", "slices.overlaps[montage/api.Node]"], unfollowed := true, recurses := true, named := ["unicode/utf8.first", "unicode/utf8.acceptRanges", "internal/bytealg.MaxLen"], apart := false, laid := [("unicode/utf8.acceptRanges", laid_unicode_utf8_acceptRanges), ("unicode/utf8.first", laid_unicode_utf8_first)], narrowed := true }
def PruneLeastUptoSaid : Prop := pruneLeastUptoRow.holds Tryz.pinned (OpenSpec.upto pruneLeastSpec)

end Rows
end Go.Proofs.YtbkbpdpegiekhaaGreatDoor
