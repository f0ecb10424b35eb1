/-
  DERIVED. GIVEN WITH THE SEED: THE CARDS: each row of YtbkbpdpegiekhaaGreatDoorRows.lean that lists a variable, with what it lists TIED to the program's text (the seventh form; the later family's looks); each row that meets fmt, with fmt's text TOLD by the authors' own Lean function (tested against real Go, not proved from fmt's source: count such statements apart). THE CARD IS WHAT COUNTS. Prove the row's statement (the work); the ties are given (YtbkbpdpegiekhaaGreatDoorTie.lean); close each card by the builder's one call (the guide's Derived/Test/ToyasCard.lean, 'card_holds'). Laid BY PROGRAM, IN A SANDBOX (cutbox-door.mjs). By AI agents, Wed Nov 11 2026. No macro, syntax, notation, axiom, sorry.
-/
import Derived.Test.YtbkbpdpegiekhaaGreatDoorRows
import GoSem.ClaimSeven
namespace Go.Proofs.YtbkbpdpegiekhaaGreatDoor
namespace Rows

/-- THE TIED CARD OF 'montagelaw25.SquashEmpty'. -/
def squashEmptyCard : Claim7 := { stood := { row := squashEmptyRow, standIns := [], harness := (true, "c930284ee8cdeca3734823b1d00b740428cf56745f4bb0a91e541e0e25e41985"), looks := false }, kinds := [], alts := [], laidByText := true, laidKinds := [.data, .pinned], laidTests := true, laidLooks := .later }
def SquashEmptyCardSaid : Prop := Claim7.holds Tryz.pinned (.plain (OpenSpec.ofChange squashEmptySpec)) squashEmptyCard

/-- THE TIED CARD OF 'montagelaw26.DiffTells'. -/
def diffTellsCard : Claim7 := { stood := { row := diffTellsRow, standIns := [], harness := (true, "c930284ee8cdeca3734823b1d00b740428cf56745f4bb0a91e541e0e25e41985"), looks := false }, kinds := [], alts := [], laidByText := true, laidKinds := [.data, .pinned], laidTests := true, laidLooks := .later }
def DiffTellsCardSaid : Prop := Claim7.holds Tryz.pinned (.plain (OpenSpec.ofChange diffTellsSpec)) diffTellsCard

/-- THE TIED CARD OF 'montagelaw26.DiffLeads'. -/
def diffLeadsCard : Claim7 := { stood := { row := diffLeadsRow, standIns := [], harness := (true, "c930284ee8cdeca3734823b1d00b740428cf56745f4bb0a91e541e0e25e41985"), looks := false }, kinds := [], alts := [], laidByText := true, laidKinds := [.data, .pinned], laidTests := true, laidLooks := .later }
def DiffLeadsCardSaid : Prop := Claim7.holds Tryz.pinned (.plain (OpenSpec.ofChange diffLeadsSpec)) diffLeadsCard

/-- THE TIED CARD OF 'montagelaw26.DiffLeast'. -/
def diffLeastCard : Claim7 := { stood := { row := diffLeastRow, standIns := [], harness := (true, "c930284ee8cdeca3734823b1d00b740428cf56745f4bb0a91e541e0e25e41985"), looks := false }, kinds := [], alts := [], laidByText := true, laidKinds := [.data, .pinned], laidTests := true, laidLooks := .later }
def DiffLeastCardSaid : Prop := Claim7.holds Tryz.pinned (.plain (OpenSpec.ofChange diffLeastSpec)) diffLeastCard

/-- THE TIED CARD OF 'montagelaw26.DiffThere'. -/
def diffThereCard : Claim7 := { stood := { row := diffThereRow, standIns := [], harness := (true, "c930284ee8cdeca3734823b1d00b740428cf56745f4bb0a91e541e0e25e41985"), looks := false }, kinds := [], alts := [], laidByText := true, laidKinds := [.data, .pinned], laidTests := true, laidLooks := .later }
def DiffThereCardSaid : Prop := Claim7.holds Tryz.pinned (.plain (OpenSpec.ofChange diffThereSpec)) diffThereCard

/-- THE TIED CARD OF 'montagelaw38.FilterLayers'. -/
def filterLayersCard : Claim7 := { stood := { row := filterLayersRow, standIns := [], harness := (true, "c930284ee8cdeca3734823b1d00b740428cf56745f4bb0a91e541e0e25e41985"), looks := false }, kinds := [], alts := [], laidByText := true, laidKinds := [.data, .pinned], laidTests := true, laidLooks := .later }
def FilterLayersCardSaid : Prop := Claim7.holds Tryz.pinned (.plain (OpenSpec.ofChange filterLayersSpec)) filterLayersCard

/-- THE TIED CARD OF 'montagelaw38.FilterTrees'. -/
def filterTreesCard : Claim7 := { stood := { row := filterTreesRow, standIns := [], harness := (true, "c930284ee8cdeca3734823b1d00b740428cf56745f4bb0a91e541e0e25e41985"), looks := false }, kinds := [], alts := [], laidByText := true, laidKinds := [.data, .pinned], laidTests := true, laidLooks := .later }
def FilterTreesCardSaid : Prop := Claim7.holds Tryz.pinned (.plain (OpenSpec.ofChange filterTreesSpec)) filterTreesCard

/-- THE TIED CARD OF 'montagelaw38.FilterParses'. -/
def filterParsesCard : Claim7 := { stood := { row := filterParsesRow, standIns := [], harness := (true, "c930284ee8cdeca3734823b1d00b740428cf56745f4bb0a91e541e0e25e41985"), looks := false }, kinds := [], alts := [], laidByText := true, laidKinds := [.data, .pinned], laidTests := true, laidLooks := .later }
def FilterParsesCardSaid : Prop := Claim7.holds Tryz.pinned (.plain (OpenSpec.ofChange filterParsesSpec)) filterParsesCard

/-- THE TIED CARD OF 'montagelaw24.ApplyPaths'. -/
def applyPathsCard : Claim7 := { stood := { row := applyPathsRow, standIns := [], harness := (true, "c930284ee8cdeca3734823b1d00b740428cf56745f4bb0a91e541e0e25e41985"), looks := false }, kinds := [], alts := [], laidByText := true, laidKinds := [.data, .pinned], laidTests := true, laidLooks := .later }
def ApplyPathsCardSaid : Prop := Claim7.holds Tryz.pinned (.plain (OpenSpec.ofChange applyPathsSpec)) applyPathsCard

/-- THE TIED CARD OF 'montagelaw24.ApplyTwice'. -/
def applyTwiceCard : Claim7 := { stood := { row := applyTwiceRow, standIns := [], harness := (true, "c930284ee8cdeca3734823b1d00b740428cf56745f4bb0a91e541e0e25e41985"), looks := false }, kinds := [], alts := [], laidByText := true, laidKinds := [.data, .pinned], laidTests := true, laidLooks := .later }
def ApplyTwiceCardSaid : Prop := Claim7.holds Tryz.pinned (.plain (OpenSpec.ofChange applyTwiceSpec)) applyTwiceCard

/-- THE TIED CARD OF 'montagelaw24.ApplyClears'. -/
def applyClearsCard : Claim7 := { stood := { row := applyClearsRow, standIns := [], harness := (true, "c930284ee8cdeca3734823b1d00b740428cf56745f4bb0a91e541e0e25e41985"), looks := false }, kinds := [], alts := [], laidByText := true, laidKinds := [.data, .pinned], laidTests := true, laidLooks := .later }
def ApplyClearsCardSaid : Prop := Claim7.holds Tryz.pinned (.plain (OpenSpec.ofChange applyClearsSpec)) applyClearsCard

/-- THE TIED CARD OF 'montagelaw24.ApplyRows'. -/
def applyRowsCard : Claim7 := { stood := { row := applyRowsRow, standIns := [], harness := (true, "c930284ee8cdeca3734823b1d00b740428cf56745f4bb0a91e541e0e25e41985"), looks := false }, kinds := [], alts := [], laidByText := true, laidKinds := [.data, .pinned], laidTests := true, laidLooks := .later }
def ApplyRowsCardSaid : Prop := Claim7.holds Tryz.pinned (.plain (OpenSpec.ofChange applyRowsSpec)) applyRowsCard

/-- THE TIED CARD OF 'montagelaw43.HistoryBack'. -/
def historyBackCard : Claim7 := { stood := { row := historyBackRow, standIns := [], harness := (true, "c930284ee8cdeca3734823b1d00b740428cf56745f4bb0a91e541e0e25e41985"), looks := false }, kinds := [], alts := [], laidByText := true, laidKinds := [.data, .pinned], laidTests := true, laidLooks := .later }
def HistoryBackCardSaid : Prop := Claim7.holds Tryz.pinned (.plain (OpenSpec.ofChange historyBackSpec)) historyBackCard

/-- THE TIED CARD OF 'montagelaw43.HistoryRuns'. -/
def historyRunsCard : Claim7 := { stood := { row := historyRunsRow, standIns := [], harness := (true, "c930284ee8cdeca3734823b1d00b740428cf56745f4bb0a91e541e0e25e41985"), looks := false }, kinds := [], alts := [], laidByText := true, laidKinds := [.data, .pinned], laidTests := true, laidLooks := .later }
def HistoryRunsCardSaid : Prop := Claim7.holds Tryz.pinned (.plain (OpenSpec.ofChange historyRunsSpec)) historyRunsCard

/-- THE TIED CARD OF 'montagelaw43.HistoryNone'. -/
def historyNoneCard : Claim7 := { stood := { row := historyNoneRow, standIns := [], harness := (true, "c930284ee8cdeca3734823b1d00b740428cf56745f4bb0a91e541e0e25e41985"), looks := false }, kinds := [], alts := [], laidByText := true, laidKinds := [.data, .pinned], laidTests := true, laidLooks := .later }
def HistoryNoneCardSaid : Prop := Claim7.holds Tryz.pinned (.plain (OpenSpec.ofChange historyNoneSpec)) historyNoneCard

/-- THE TIED CARD OF 'montagelaw44.PruneDoes'. -/
def pruneDoesCard : Claim7 := { stood := { row := pruneDoesRow, standIns := [], harness := (true, "c930284ee8cdeca3734823b1d00b740428cf56745f4bb0a91e541e0e25e41985"), looks := false }, kinds := [], alts := [], laidByText := true, laidKinds := [.data, .pinned], laidTests := true, laidLooks := .later }
def PruneDoesCardSaid : Prop := Claim7.holds Tryz.pinned (.plain (OpenSpec.ofChange pruneDoesSpec)) pruneDoesCard

/-- THE TIED CARD OF 'montagelaw44.PruneIdle'. -/
def pruneIdleCard : Claim7 := { stood := { row := pruneIdleRow, standIns := [], harness := (true, "c930284ee8cdeca3734823b1d00b740428cf56745f4bb0a91e541e0e25e41985"), looks := false }, kinds := [], alts := [], laidByText := true, laidKinds := [.data, .pinned], laidTests := true, laidLooks := .later }
def PruneIdleCardSaid : Prop := Claim7.holds Tryz.pinned (.plain (OpenSpec.ofChange pruneIdleSpec)) pruneIdleCard

/-- THE TIED CARD OF 'montagelaw44.PruneLeast'. -/
def pruneLeastCard : Claim7 := { stood := { row := pruneLeastRow, standIns := [], harness := (true, "c930284ee8cdeca3734823b1d00b740428cf56745f4bb0a91e541e0e25e41985"), looks := false }, kinds := [], alts := [], laidByText := true, laidKinds := [.data, .pinned], laidTests := true, laidLooks := .later }
def PruneLeastCardSaid : Prop := Claim7.holds Tryz.pinned (.plain (OpenSpec.ofChange pruneLeastSpec)) pruneLeastCard

/-- THE SECOND FORM's CARD OF 'montagelaw25.SquashEmpty'. -/
def squashEmptyUptoCard : Claim7 := { stood := { row := squashEmptyUptoRow, standIns := [], harness := (true, "c930284ee8cdeca3734823b1d00b740428cf56745f4bb0a91e541e0e25e41985"), looks := false }, kinds := [], alts := [], laidByText := true, laidKinds := [.data, .pinned], laidTests := true, laidLooks := .later }
def SquashEmptyUptoCardSaid : Prop := Claim7.holds Tryz.pinned (.plain (OpenSpec.upto squashEmptySpec)) squashEmptyUptoCard

/-- THE SECOND FORM's CARD OF 'montagelaw26.DiffTells'. -/
def diffTellsUptoCard : Claim7 := { stood := { row := diffTellsUptoRow, standIns := [], harness := (true, "c930284ee8cdeca3734823b1d00b740428cf56745f4bb0a91e541e0e25e41985"), looks := false }, kinds := [], alts := [], laidByText := true, laidKinds := [.data, .pinned], laidTests := true, laidLooks := .later }
def DiffTellsUptoCardSaid : Prop := Claim7.holds Tryz.pinned (.plain (OpenSpec.upto diffTellsSpec)) diffTellsUptoCard

/-- THE SECOND FORM's CARD OF 'montagelaw26.DiffLeads'. -/
def diffLeadsUptoCard : Claim7 := { stood := { row := diffLeadsUptoRow, standIns := [], harness := (true, "c930284ee8cdeca3734823b1d00b740428cf56745f4bb0a91e541e0e25e41985"), looks := false }, kinds := [], alts := [], laidByText := true, laidKinds := [.data, .pinned], laidTests := true, laidLooks := .later }
def DiffLeadsUptoCardSaid : Prop := Claim7.holds Tryz.pinned (.plain (OpenSpec.upto diffLeadsSpec)) diffLeadsUptoCard

/-- THE SECOND FORM's CARD OF 'montagelaw26.DiffLeast'. -/
def diffLeastUptoCard : Claim7 := { stood := { row := diffLeastUptoRow, standIns := [], harness := (true, "c930284ee8cdeca3734823b1d00b740428cf56745f4bb0a91e541e0e25e41985"), looks := false }, kinds := [], alts := [], laidByText := true, laidKinds := [.data, .pinned], laidTests := true, laidLooks := .later }
def DiffLeastUptoCardSaid : Prop := Claim7.holds Tryz.pinned (.plain (OpenSpec.upto diffLeastSpec)) diffLeastUptoCard

/-- THE SECOND FORM's CARD OF 'montagelaw26.DiffThere'. -/
def diffThereUptoCard : Claim7 := { stood := { row := diffThereUptoRow, standIns := [], harness := (true, "c930284ee8cdeca3734823b1d00b740428cf56745f4bb0a91e541e0e25e41985"), looks := false }, kinds := [], alts := [], laidByText := true, laidKinds := [.data, .pinned], laidTests := true, laidLooks := .later }
def DiffThereUptoCardSaid : Prop := Claim7.holds Tryz.pinned (.plain (OpenSpec.upto diffThereSpec)) diffThereUptoCard

/-- THE SECOND FORM's CARD OF 'montagelaw38.FilterLayers'. -/
def filterLayersUptoCard : Claim7 := { stood := { row := filterLayersUptoRow, standIns := [], harness := (true, "c930284ee8cdeca3734823b1d00b740428cf56745f4bb0a91e541e0e25e41985"), looks := false }, kinds := [], alts := [], laidByText := true, laidKinds := [.data, .pinned], laidTests := true, laidLooks := .later }
def FilterLayersUptoCardSaid : Prop := Claim7.holds Tryz.pinned (.plain (OpenSpec.upto filterLayersSpec)) filterLayersUptoCard

/-- THE SECOND FORM's CARD OF 'montagelaw38.FilterTrees'. -/
def filterTreesUptoCard : Claim7 := { stood := { row := filterTreesUptoRow, standIns := [], harness := (true, "c930284ee8cdeca3734823b1d00b740428cf56745f4bb0a91e541e0e25e41985"), looks := false }, kinds := [], alts := [], laidByText := true, laidKinds := [.data, .pinned], laidTests := true, laidLooks := .later }
def FilterTreesUptoCardSaid : Prop := Claim7.holds Tryz.pinned (.plain (OpenSpec.upto filterTreesSpec)) filterTreesUptoCard

/-- THE SECOND FORM's CARD OF 'montagelaw38.FilterParses'. -/
def filterParsesUptoCard : Claim7 := { stood := { row := filterParsesUptoRow, standIns := [], harness := (true, "c930284ee8cdeca3734823b1d00b740428cf56745f4bb0a91e541e0e25e41985"), looks := false }, kinds := [], alts := [], laidByText := true, laidKinds := [.data, .pinned], laidTests := true, laidLooks := .later }
def FilterParsesUptoCardSaid : Prop := Claim7.holds Tryz.pinned (.plain (OpenSpec.upto filterParsesSpec)) filterParsesUptoCard

/-- THE SECOND FORM's CARD OF 'montagelaw24.ApplyPaths'. -/
def applyPathsUptoCard : Claim7 := { stood := { row := applyPathsUptoRow, standIns := [], harness := (true, "c930284ee8cdeca3734823b1d00b740428cf56745f4bb0a91e541e0e25e41985"), looks := false }, kinds := [], alts := [], laidByText := true, laidKinds := [.data, .pinned], laidTests := true, laidLooks := .later }
def ApplyPathsUptoCardSaid : Prop := Claim7.holds Tryz.pinned (.plain (OpenSpec.upto applyPathsSpec)) applyPathsUptoCard

/-- THE SECOND FORM's CARD OF 'montagelaw24.ApplyTwice'. -/
def applyTwiceUptoCard : Claim7 := { stood := { row := applyTwiceUptoRow, standIns := [], harness := (true, "c930284ee8cdeca3734823b1d00b740428cf56745f4bb0a91e541e0e25e41985"), looks := false }, kinds := [], alts := [], laidByText := true, laidKinds := [.data, .pinned], laidTests := true, laidLooks := .later }
def ApplyTwiceUptoCardSaid : Prop := Claim7.holds Tryz.pinned (.plain (OpenSpec.upto applyTwiceSpec)) applyTwiceUptoCard

/-- THE SECOND FORM's CARD OF 'montagelaw24.ApplyClears'. -/
def applyClearsUptoCard : Claim7 := { stood := { row := applyClearsUptoRow, standIns := [], harness := (true, "c930284ee8cdeca3734823b1d00b740428cf56745f4bb0a91e541e0e25e41985"), looks := false }, kinds := [], alts := [], laidByText := true, laidKinds := [.data, .pinned], laidTests := true, laidLooks := .later }
def ApplyClearsUptoCardSaid : Prop := Claim7.holds Tryz.pinned (.plain (OpenSpec.upto applyClearsSpec)) applyClearsUptoCard

/-- THE SECOND FORM's CARD OF 'montagelaw24.ApplyRows'. -/
def applyRowsUptoCard : Claim7 := { stood := { row := applyRowsUptoRow, standIns := [], harness := (true, "c930284ee8cdeca3734823b1d00b740428cf56745f4bb0a91e541e0e25e41985"), looks := false }, kinds := [], alts := [], laidByText := true, laidKinds := [.data, .pinned], laidTests := true, laidLooks := .later }
def ApplyRowsUptoCardSaid : Prop := Claim7.holds Tryz.pinned (.plain (OpenSpec.upto applyRowsSpec)) applyRowsUptoCard

/-- THE SECOND FORM's CARD OF 'montagelaw43.HistoryBack'. -/
def historyBackUptoCard : Claim7 := { stood := { row := historyBackUptoRow, standIns := [], harness := (true, "c930284ee8cdeca3734823b1d00b740428cf56745f4bb0a91e541e0e25e41985"), looks := false }, kinds := [], alts := [], laidByText := true, laidKinds := [.data, .pinned], laidTests := true, laidLooks := .later }
def HistoryBackUptoCardSaid : Prop := Claim7.holds Tryz.pinned (.plain (OpenSpec.upto historyBackSpec)) historyBackUptoCard

/-- THE SECOND FORM's CARD OF 'montagelaw43.HistoryRuns'. -/
def historyRunsUptoCard : Claim7 := { stood := { row := historyRunsUptoRow, standIns := [], harness := (true, "c930284ee8cdeca3734823b1d00b740428cf56745f4bb0a91e541e0e25e41985"), looks := false }, kinds := [], alts := [], laidByText := true, laidKinds := [.data, .pinned], laidTests := true, laidLooks := .later }
def HistoryRunsUptoCardSaid : Prop := Claim7.holds Tryz.pinned (.plain (OpenSpec.upto historyRunsSpec)) historyRunsUptoCard

/-- THE SECOND FORM's CARD OF 'montagelaw43.HistoryNone'. -/
def historyNoneUptoCard : Claim7 := { stood := { row := historyNoneUptoRow, standIns := [], harness := (true, "c930284ee8cdeca3734823b1d00b740428cf56745f4bb0a91e541e0e25e41985"), looks := false }, kinds := [], alts := [], laidByText := true, laidKinds := [.data, .pinned], laidTests := true, laidLooks := .later }
def HistoryNoneUptoCardSaid : Prop := Claim7.holds Tryz.pinned (.plain (OpenSpec.upto historyNoneSpec)) historyNoneUptoCard

/-- THE SECOND FORM's CARD OF 'montagelaw44.PruneDoes'. -/
def pruneDoesUptoCard : Claim7 := { stood := { row := pruneDoesUptoRow, standIns := [], harness := (true, "c930284ee8cdeca3734823b1d00b740428cf56745f4bb0a91e541e0e25e41985"), looks := false }, kinds := [], alts := [], laidByText := true, laidKinds := [.data, .pinned], laidTests := true, laidLooks := .later }
def PruneDoesUptoCardSaid : Prop := Claim7.holds Tryz.pinned (.plain (OpenSpec.upto pruneDoesSpec)) pruneDoesUptoCard

/-- THE SECOND FORM's CARD OF 'montagelaw44.PruneIdle'. -/
def pruneIdleUptoCard : Claim7 := { stood := { row := pruneIdleUptoRow, standIns := [], harness := (true, "c930284ee8cdeca3734823b1d00b740428cf56745f4bb0a91e541e0e25e41985"), looks := false }, kinds := [], alts := [], laidByText := true, laidKinds := [.data, .pinned], laidTests := true, laidLooks := .later }
def PruneIdleUptoCardSaid : Prop := Claim7.holds Tryz.pinned (.plain (OpenSpec.upto pruneIdleSpec)) pruneIdleUptoCard

/-- THE SECOND FORM's CARD OF 'montagelaw44.PruneLeast'. -/
def pruneLeastUptoCard : Claim7 := { stood := { row := pruneLeastUptoRow, standIns := [], harness := (true, "c930284ee8cdeca3734823b1d00b740428cf56745f4bb0a91e541e0e25e41985"), looks := false }, kinds := [], alts := [], laidByText := true, laidKinds := [.data, .pinned], laidTests := true, laidLooks := .later }
def PruneLeastUptoCardSaid : Prop := Claim7.holds Tryz.pinned (.plain (OpenSpec.upto pruneLeastSpec)) pruneLeastUptoCard
end Rows
end Go.Proofs.YtbkbpdpegiekhaaGreatDoor
