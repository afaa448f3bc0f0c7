/-
  DERIVED. GIVEN WITH THE SEED: THE CARDS: each row of YtmogappoadglgaaDoorRows.lean that lists a variable, with what it lists TIED to the program's text (the seventh form; the later family's looks); each row that meets fmt, with fmt's text TOLD by the authors' own Lean function (tested against real Go, not proved from fmt's source: count such statements apart). THE CARD IS WHAT COUNTS. Prove the row's statement (the work); the ties are given (YtmogappoadglgaaDoorTie.lean); close each card by the builder's one call (the guide's Derived/Test/ToyasCard.lean, 'card_holds'). Laid BY PROGRAM, IN A SANDBOX (cutbox-door.mjs). By AI agents, Wed Nov 11 2026. No macro, syntax, notation, axiom, sorry.
-/
import Derived.Test.YtmogappoadglgaaDoorRows
import GoSem.ClaimSeven
namespace Go.Proofs.YtmogappoadglgaaDoor
namespace Rows

/-- THE TIED CARD OF 'humpyardlaw13.WalkBase'. -/
def walkBaseCard : Claim7 := { stood := { row := walkBaseRow, standIns := [], harness := (true, "60e8e0df8ad82ed1416a514eabf8198ae09a73bd48c1c491087fc1b308275693"), looks := false }, kinds := [], alts := [], laidByText := true, laidKinds := [.data, .pinned], laidTests := true, laidLooks := .later }
def WalkBaseCardSaid : Prop := Claim7.holds Tryd.pinned (.plain (OpenSpec.ofChange walkBaseSpec)) walkBaseCard

/-- THE TIED CARD OF 'humpyardlaw13.WalkJoins'. -/
def walkJoinsCard : Claim7 := { stood := { row := walkJoinsRow, standIns := [], harness := (true, "60e8e0df8ad82ed1416a514eabf8198ae09a73bd48c1c491087fc1b308275693"), looks := false }, kinds := [], alts := [], laidByText := true, laidKinds := [.data, .pinned], laidTests := true, laidLooks := .later }
def WalkJoinsCardSaid : Prop := Claim7.holds Tryd.pinned (.plain (OpenSpec.ofChange walkJoinsSpec)) walkJoinsCard

/-- THE TIED CARD OF 'humpyardlaw13.WalkChecks'. -/
def walkChecksCard : Claim7 := { stood := { row := walkChecksRow, standIns := [], harness := (true, "60e8e0df8ad82ed1416a514eabf8198ae09a73bd48c1c491087fc1b308275693"), looks := false }, kinds := [], alts := [], laidByText := true, laidKinds := [.data, .pinned], laidTests := true, laidLooks := .later }
def WalkChecksCardSaid : Prop := Claim7.holds Tryd.pinned (.plain (OpenSpec.ofChange walkChecksSpec)) walkChecksCard

/-- THE TIED CARD OF 'humpyardlaw13.WalkWrong'. -/
def walkWrongCard : Claim7 := { stood := { row := walkWrongRow, standIns := [], harness := (true, "60e8e0df8ad82ed1416a514eabf8198ae09a73bd48c1c491087fc1b308275693"), looks := false }, kinds := [], alts := [], laidByText := true, laidKinds := [.data, .pinned], laidTests := true, laidLooks := .later }
def WalkWrongCardSaid : Prop := Claim7.holds Tryd.pinned (.plain (OpenSpec.ofChange walkWrongSpec)) walkWrongCard

/-- THE TIED CARD OF 'humpyardlaw13.WalkStops'. -/
def walkStopsCard : Claim7 := { stood := { row := walkStopsRow, standIns := [], harness := (true, "60e8e0df8ad82ed1416a514eabf8198ae09a73bd48c1c491087fc1b308275693"), looks := false }, kinds := [], alts := [], laidByText := true, laidKinds := [.data, .pinned], laidTests := true, laidLooks := .later }
def WalkStopsCardSaid : Prop := Claim7.holds Tryd.pinned (.plain (OpenSpec.ofChange walkStopsSpec)) walkStopsCard

/-- THE TIED CARD OF 'humpyardlaw21.TraceShares'. -/
def traceSharesCard : Claim7 := { stood := { row := traceSharesRow, standIns := [], harness := (true, "60e8e0df8ad82ed1416a514eabf8198ae09a73bd48c1c491087fc1b308275693"), looks := false }, kinds := [], alts := [], laidByText := true, laidKinds := [.data, .data, .data], laidTests := true, laidLooks := .later }
def TraceSharesCardSaid : Prop := Claim7.holds Tryd.pinned (.plain (OpenSpec.ofChange traceSharesSpec)) traceSharesCard

/-- THE TIED CARD OF 'humpyardlaw21.TraceKinds'. -/
def traceKindsCard : Claim7 := { stood := { row := traceKindsRow, standIns := [], harness := (true, "60e8e0df8ad82ed1416a514eabf8198ae09a73bd48c1c491087fc1b308275693"), looks := false }, kinds := [], alts := [], laidByText := true, laidKinds := [.data, .data, .data], laidTests := true, laidLooks := .later }
def TraceKindsCardSaid : Prop := Claim7.holds Tryd.pinned (.plain (OpenSpec.ofChange traceKindsSpec)) traceKindsCard

/-- THE TIED CARD OF 'humpyardlaw21.TraceReports'. -/
def traceReportsCard : Claim7 := { stood := { row := traceReportsRow, standIns := [], harness := (true, "60e8e0df8ad82ed1416a514eabf8198ae09a73bd48c1c491087fc1b308275693"), looks := false }, kinds := [], alts := [], laidByText := true, laidKinds := [.data, .data, .data], laidTests := true, laidLooks := .later }
def TraceReportsCardSaid : Prop := Claim7.holds Tryd.pinned (.plain (OpenSpec.ofChange traceReportsSpec)) traceReportsCard

/-- THE TIED CARD OF 'humpyardlaw21.TraceCounts'. -/
def traceCountsCard : Claim7 := { stood := { row := traceCountsRow, standIns := [], harness := (true, "60e8e0df8ad82ed1416a514eabf8198ae09a73bd48c1c491087fc1b308275693"), looks := false }, kinds := [], alts := [], laidByText := true, laidKinds := [.data, .data, .data], laidTests := true, laidLooks := .later }
def TraceCountsCardSaid : Prop := Claim7.holds Tryd.pinned (.plain (OpenSpec.ofChange traceCountsSpec)) traceCountsCard

/-- THE TIED CARD OF 'humpyardlaw07.TopicTells'. -/
def topicTellsCard : Claim7 := { stood := { row := topicTellsRow, standIns := [], harness := (true, "60e8e0df8ad82ed1416a514eabf8198ae09a73bd48c1c491087fc1b308275693"), looks := false }, kinds := [], alts := [], laidByText := true, laidKinds := [.data, .pinned], laidTests := true, laidLooks := .later }
def TopicTellsCardSaid : Prop := Claim7.holds Tryd.pinned (.plain (OpenSpec.ofChange topicTellsSpec)) topicTellsCard

/-- THE TIED CARD OF 'humpyardlaw07.TopicBack'. -/
def topicBackCard : Claim7 := { stood := { row := topicBackRow, standIns := [], harness := (true, "60e8e0df8ad82ed1416a514eabf8198ae09a73bd48c1c491087fc1b308275693"), looks := false }, kinds := [], alts := [], laidByText := true, laidKinds := [.data, .pinned], laidTests := true, laidLooks := .later }
def TopicBackCardSaid : Prop := Claim7.holds Tryd.pinned (.plain (OpenSpec.ofChange topicBackSpec)) topicBackCard

/-- THE TIED CARD OF 'humpyardlaw07.TopicForth'. -/
def topicForthCard : Claim7 := { stood := { row := topicForthRow, standIns := [], harness := (true, "60e8e0df8ad82ed1416a514eabf8198ae09a73bd48c1c491087fc1b308275693"), looks := false }, kinds := [], alts := [], laidByText := true, laidKinds := [.data, .pinned], laidTests := true, laidLooks := .later }
def TopicForthCardSaid : Prop := Claim7.holds Tryd.pinned (.plain (OpenSpec.ofChange topicForthSpec)) topicForthCard

/-- THE TIED CARD OF 'humpyardlaw07.TopicFilters'. -/
def topicFiltersCard : Claim7 := { stood := { row := topicFiltersRow, standIns := [], harness := (true, "60e8e0df8ad82ed1416a514eabf8198ae09a73bd48c1c491087fc1b308275693"), looks := false }, kinds := [], alts := [], laidByText := true, laidKinds := [.data, .pinned], laidTests := true, laidLooks := .later }
def TopicFiltersCardSaid : Prop := Claim7.holds Tryd.pinned (.plain (OpenSpec.ofChange topicFiltersSpec)) topicFiltersCard

/-- THE TIED CARD OF 'humpyardlaw07.TopicNames'. -/
def topicNamesCard : Claim7 := { stood := { row := topicNamesRow, standIns := [], harness := (true, "60e8e0df8ad82ed1416a514eabf8198ae09a73bd48c1c491087fc1b308275693"), looks := false }, kinds := [], alts := [], laidByText := true, laidKinds := [.data, .pinned], laidTests := true, laidLooks := .later }
def TopicNamesCardSaid : Prop := Claim7.holds Tryd.pinned (.plain (OpenSpec.ofChange topicNamesSpec)) topicNamesCard

/-- THE TIED CARD OF 'humpyardlaw07.TopicApart'. -/
def topicApartCard : Claim7 := { stood := { row := topicApartRow, standIns := [], harness := (true, "60e8e0df8ad82ed1416a514eabf8198ae09a73bd48c1c491087fc1b308275693"), looks := false }, kinds := [], alts := [], laidByText := true, laidKinds := [.data, .pinned], laidTests := true, laidLooks := .later }
def TopicApartCardSaid : Prop := Claim7.holds Tryd.pinned (.plain (OpenSpec.ofChange topicApartSpec)) topicApartCard

/-- THE TIED CARD OF 'humpyardlaw07.TopicParts'. -/
def topicPartsCard : Claim7 := { stood := { row := topicPartsRow, standIns := [], harness := (true, "60e8e0df8ad82ed1416a514eabf8198ae09a73bd48c1c491087fc1b308275693"), looks := false }, kinds := [], alts := [], laidByText := true, laidKinds := [.data, .pinned], laidTests := true, laidLooks := .later }
def TopicPartsCardSaid : Prop := Claim7.holds Tryd.pinned (.plain (OpenSpec.ofChange topicPartsSpec)) topicPartsCard

/-- THE SECOND FORM's CARD OF 'humpyardlaw13.WalkBase'. -/
def walkBaseUptoCard : Claim7 := { stood := { row := walkBaseUptoRow, standIns := [], harness := (true, "60e8e0df8ad82ed1416a514eabf8198ae09a73bd48c1c491087fc1b308275693"), looks := false }, kinds := [], alts := [], laidByText := true, laidKinds := [.data, .pinned], laidTests := true, laidLooks := .later }
def WalkBaseUptoCardSaid : Prop := Claim7.holds Tryd.pinned (.plain (OpenSpec.upto walkBaseSpec)) walkBaseUptoCard

/-- THE SECOND FORM's CARD OF 'humpyardlaw13.WalkJoins'. -/
def walkJoinsUptoCard : Claim7 := { stood := { row := walkJoinsUptoRow, standIns := [], harness := (true, "60e8e0df8ad82ed1416a514eabf8198ae09a73bd48c1c491087fc1b308275693"), looks := false }, kinds := [], alts := [], laidByText := true, laidKinds := [.data, .pinned], laidTests := true, laidLooks := .later }
def WalkJoinsUptoCardSaid : Prop := Claim7.holds Tryd.pinned (.plain (OpenSpec.upto walkJoinsSpec)) walkJoinsUptoCard

/-- THE SECOND FORM's CARD OF 'humpyardlaw13.WalkChecks'. -/
def walkChecksUptoCard : Claim7 := { stood := { row := walkChecksUptoRow, standIns := [], harness := (true, "60e8e0df8ad82ed1416a514eabf8198ae09a73bd48c1c491087fc1b308275693"), looks := false }, kinds := [], alts := [], laidByText := true, laidKinds := [.data, .pinned], laidTests := true, laidLooks := .later }
def WalkChecksUptoCardSaid : Prop := Claim7.holds Tryd.pinned (.plain (OpenSpec.upto walkChecksSpec)) walkChecksUptoCard

/-- THE SECOND FORM's CARD OF 'humpyardlaw13.WalkWrong'. -/
def walkWrongUptoCard : Claim7 := { stood := { row := walkWrongUptoRow, standIns := [], harness := (true, "60e8e0df8ad82ed1416a514eabf8198ae09a73bd48c1c491087fc1b308275693"), looks := false }, kinds := [], alts := [], laidByText := true, laidKinds := [.data, .pinned], laidTests := true, laidLooks := .later }
def WalkWrongUptoCardSaid : Prop := Claim7.holds Tryd.pinned (.plain (OpenSpec.upto walkWrongSpec)) walkWrongUptoCard

/-- THE SECOND FORM's CARD OF 'humpyardlaw13.WalkStops'. -/
def walkStopsUptoCard : Claim7 := { stood := { row := walkStopsUptoRow, standIns := [], harness := (true, "60e8e0df8ad82ed1416a514eabf8198ae09a73bd48c1c491087fc1b308275693"), looks := false }, kinds := [], alts := [], laidByText := true, laidKinds := [.data, .pinned], laidTests := true, laidLooks := .later }
def WalkStopsUptoCardSaid : Prop := Claim7.holds Tryd.pinned (.plain (OpenSpec.upto walkStopsSpec)) walkStopsUptoCard

/-- THE SECOND FORM's CARD OF 'humpyardlaw21.TraceShares'. -/
def traceSharesUptoCard : Claim7 := { stood := { row := traceSharesUptoRow, standIns := [], harness := (true, "60e8e0df8ad82ed1416a514eabf8198ae09a73bd48c1c491087fc1b308275693"), looks := false }, kinds := [], alts := [], laidByText := true, laidKinds := [.data, .data, .data], laidTests := true, laidLooks := .later }
def TraceSharesUptoCardSaid : Prop := Claim7.holds Tryd.pinned (.plain (OpenSpec.upto traceSharesSpec)) traceSharesUptoCard

/-- THE SECOND FORM's CARD OF 'humpyardlaw21.TraceKinds'. -/
def traceKindsUptoCard : Claim7 := { stood := { row := traceKindsUptoRow, standIns := [], harness := (true, "60e8e0df8ad82ed1416a514eabf8198ae09a73bd48c1c491087fc1b308275693"), looks := false }, kinds := [], alts := [], laidByText := true, laidKinds := [.data, .data, .data], laidTests := true, laidLooks := .later }
def TraceKindsUptoCardSaid : Prop := Claim7.holds Tryd.pinned (.plain (OpenSpec.upto traceKindsSpec)) traceKindsUptoCard

/-- THE SECOND FORM's CARD OF 'humpyardlaw21.TraceReports'. -/
def traceReportsUptoCard : Claim7 := { stood := { row := traceReportsUptoRow, standIns := [], harness := (true, "60e8e0df8ad82ed1416a514eabf8198ae09a73bd48c1c491087fc1b308275693"), looks := false }, kinds := [], alts := [], laidByText := true, laidKinds := [.data, .data, .data], laidTests := true, laidLooks := .later }
def TraceReportsUptoCardSaid : Prop := Claim7.holds Tryd.pinned (.plain (OpenSpec.upto traceReportsSpec)) traceReportsUptoCard

/-- THE SECOND FORM's CARD OF 'humpyardlaw21.TraceCounts'. -/
def traceCountsUptoCard : Claim7 := { stood := { row := traceCountsUptoRow, standIns := [], harness := (true, "60e8e0df8ad82ed1416a514eabf8198ae09a73bd48c1c491087fc1b308275693"), looks := false }, kinds := [], alts := [], laidByText := true, laidKinds := [.data, .data, .data], laidTests := true, laidLooks := .later }
def TraceCountsUptoCardSaid : Prop := Claim7.holds Tryd.pinned (.plain (OpenSpec.upto traceCountsSpec)) traceCountsUptoCard

/-- THE SECOND FORM's CARD OF 'humpyardlaw07.TopicTells'. -/
def topicTellsUptoCard : Claim7 := { stood := { row := topicTellsUptoRow, standIns := [], harness := (true, "60e8e0df8ad82ed1416a514eabf8198ae09a73bd48c1c491087fc1b308275693"), looks := false }, kinds := [], alts := [], laidByText := true, laidKinds := [.data, .pinned], laidTests := true, laidLooks := .later }
def TopicTellsUptoCardSaid : Prop := Claim7.holds Tryd.pinned (.plain (OpenSpec.upto topicTellsSpec)) topicTellsUptoCard

/-- THE SECOND FORM's CARD OF 'humpyardlaw07.TopicBack'. -/
def topicBackUptoCard : Claim7 := { stood := { row := topicBackUptoRow, standIns := [], harness := (true, "60e8e0df8ad82ed1416a514eabf8198ae09a73bd48c1c491087fc1b308275693"), looks := false }, kinds := [], alts := [], laidByText := true, laidKinds := [.data, .pinned], laidTests := true, laidLooks := .later }
def TopicBackUptoCardSaid : Prop := Claim7.holds Tryd.pinned (.plain (OpenSpec.upto topicBackSpec)) topicBackUptoCard

/-- THE SECOND FORM's CARD OF 'humpyardlaw07.TopicForth'. -/
def topicForthUptoCard : Claim7 := { stood := { row := topicForthUptoRow, standIns := [], harness := (true, "60e8e0df8ad82ed1416a514eabf8198ae09a73bd48c1c491087fc1b308275693"), looks := false }, kinds := [], alts := [], laidByText := true, laidKinds := [.data, .pinned], laidTests := true, laidLooks := .later }
def TopicForthUptoCardSaid : Prop := Claim7.holds Tryd.pinned (.plain (OpenSpec.upto topicForthSpec)) topicForthUptoCard

/-- THE SECOND FORM's CARD OF 'humpyardlaw07.TopicFilters'. -/
def topicFiltersUptoCard : Claim7 := { stood := { row := topicFiltersUptoRow, standIns := [], harness := (true, "60e8e0df8ad82ed1416a514eabf8198ae09a73bd48c1c491087fc1b308275693"), looks := false }, kinds := [], alts := [], laidByText := true, laidKinds := [.data, .pinned], laidTests := true, laidLooks := .later }
def TopicFiltersUptoCardSaid : Prop := Claim7.holds Tryd.pinned (.plain (OpenSpec.upto topicFiltersSpec)) topicFiltersUptoCard

/-- THE SECOND FORM's CARD OF 'humpyardlaw07.TopicNames'. -/
def topicNamesUptoCard : Claim7 := { stood := { row := topicNamesUptoRow, standIns := [], harness := (true, "60e8e0df8ad82ed1416a514eabf8198ae09a73bd48c1c491087fc1b308275693"), looks := false }, kinds := [], alts := [], laidByText := true, laidKinds := [.data, .pinned], laidTests := true, laidLooks := .later }
def TopicNamesUptoCardSaid : Prop := Claim7.holds Tryd.pinned (.plain (OpenSpec.upto topicNamesSpec)) topicNamesUptoCard

/-- THE SECOND FORM's CARD OF 'humpyardlaw07.TopicApart'. -/
def topicApartUptoCard : Claim7 := { stood := { row := topicApartUptoRow, standIns := [], harness := (true, "60e8e0df8ad82ed1416a514eabf8198ae09a73bd48c1c491087fc1b308275693"), looks := false }, kinds := [], alts := [], laidByText := true, laidKinds := [.data, .pinned], laidTests := true, laidLooks := .later }
def TopicApartUptoCardSaid : Prop := Claim7.holds Tryd.pinned (.plain (OpenSpec.upto topicApartSpec)) topicApartUptoCard

/-- THE SECOND FORM's CARD OF 'humpyardlaw07.TopicParts'. -/
def topicPartsUptoCard : Claim7 := { stood := { row := topicPartsUptoRow, standIns := [], harness := (true, "60e8e0df8ad82ed1416a514eabf8198ae09a73bd48c1c491087fc1b308275693"), looks := false }, kinds := [], alts := [], laidByText := true, laidKinds := [.data, .pinned], laidTests := true, laidLooks := .later }
def TopicPartsUptoCardSaid : Prop := Claim7.holds Tryd.pinned (.plain (OpenSpec.upto topicPartsSpec)) topicPartsUptoCard
end Rows
end Go.Proofs.YtmogappoadglgaaDoor
