/-
  DERIVED. GIVEN WITH THE SEED: THE CARDS: each row of YtcfegecdlbbeaaaDoorRows.lean that lists a variable, with what it lists TIED to the program's text (the seventh form; the later family's looks); each row that meets fmt, with fmt's text TOLD by the authors' own Lean function (tested against real Go, not proved from fmt's source: count such statements apart). THE CARD IS WHAT COUNTS. Prove the row's statement (the work); the ties are given (YtcfegecdlbbeaaaDoorTie.lean); close each card by the builder's one call (the guide's Derived/Test/ToyasCard.lean, 'card_holds'). Laid BY PROGRAM, IN A SANDBOX (cutbox-door.mjs). By AI agents, Wed Nov 11 2026. No macro, syntax, notation, axiom, sorry.
-/
import Derived.Test.YtcfegecdlbbeaaaDoorRows
import GoSem.ClaimSeven
namespace Go.Proofs.YtcfegecdlbbeaaaDoor
namespace Rows

/-- THE TIED CARD OF 'widgetrylaw14.ViewKeys'. -/
def viewKeysCard : Claim7 := { stood := { row := viewKeysRow, standIns := [], harness := (true, "fc655a731df175bc5225b2823f3ea53fe659414f7ab4f45c9a4e89c8ed89e81a"), looks := false }, kinds := [], alts := [], laidByText := true, laidKinds := [.data, .data, .data, .data, .pinned], laidTests := true, laidLooks := .later }
def ViewKeysCardSaid : Prop := Claim7.holds Tryd.pinned (.plain (OpenSpec.ofChange viewKeysSpec)) viewKeysCard

/-- THE TIED CARD OF 'widgetrylaw14.ViewSpoilt'. -/
def viewSpoiltCard : Claim7 := { stood := { row := viewSpoiltRow, standIns := [], harness := (true, "fc655a731df175bc5225b2823f3ea53fe659414f7ab4f45c9a4e89c8ed89e81a"), looks := false }, kinds := [], alts := [], laidByText := true, laidKinds := [.data, .data, .data, .data, .pinned], laidTests := true, laidLooks := .later }
def ViewSpoiltCardSaid : Prop := Claim7.holds Tryd.pinned (.plain (OpenSpec.ofChange viewSpoiltSpec)) viewSpoiltCard

/-- THE TIED CARD OF 'widgetrylaw14.ViewNames'. -/
def viewNamesCard : Claim7 := { stood := { row := viewNamesRow, standIns := [], harness := (true, "fc655a731df175bc5225b2823f3ea53fe659414f7ab4f45c9a4e89c8ed89e81a"), looks := false }, kinds := [], alts := [], laidByText := true, laidKinds := [.data, .data, .data, .data, .pinned], laidTests := true, laidLooks := .later }
def ViewNamesCardSaid : Prop := Claim7.holds Tryd.pinned (.plain (OpenSpec.ofChange viewNamesSpec)) viewNamesCard

/-- THE TIED CARD OF 'widgetrylaw14.ViewLimits'. -/
def viewLimitsCard : Claim7 := { stood := { row := viewLimitsRow, standIns := [], harness := (true, "fc655a731df175bc5225b2823f3ea53fe659414f7ab4f45c9a4e89c8ed89e81a"), looks := false }, kinds := [], alts := [], laidByText := true, laidKinds := [.data, .data, .data, .data, .pinned], laidTests := true, laidLooks := .later }
def ViewLimitsCardSaid : Prop := Claim7.holds Tryd.pinned (.plain (OpenSpec.ofChange viewLimitsSpec)) viewLimitsCard

/-- THE TIED CARD OF 'widgetrylaw14.ViewAttrs'. -/
def viewAttrsCard : Claim7 := { stood := { row := viewAttrsRow, standIns := [], harness := (true, "fc655a731df175bc5225b2823f3ea53fe659414f7ab4f45c9a4e89c8ed89e81a"), looks := false }, kinds := [], alts := [], laidByText := true, laidKinds := [.data, .data, .data, .data, .pinned], laidTests := true, laidLooks := .later }
def ViewAttrsCardSaid : Prop := Claim7.holds Tryd.pinned (.plain (OpenSpec.ofChange viewAttrsSpec)) viewAttrsCard

/-- THE TIED CARD OF 'widgetrylaw14.ViewRaw'. -/
def viewRawCard : Claim7 := { stood := { row := viewRawRow, standIns := [], harness := (true, "fc655a731df175bc5225b2823f3ea53fe659414f7ab4f45c9a4e89c8ed89e81a"), looks := false }, kinds := [], alts := [], laidByText := true, laidKinds := [.data, .data, .data, .data, .pinned], laidTests := true, laidLooks := .later }
def ViewRawCardSaid : Prop := Claim7.holds Tryd.pinned (.plain (OpenSpec.ofChange viewRawSpec)) viewRawCard

/-- THE TIED CARD OF 'widgetrylaw14.ViewBuilds'. -/
def viewBuildsCard : Claim7 := { stood := { row := viewBuildsRow, standIns := [], harness := (true, "fc655a731df175bc5225b2823f3ea53fe659414f7ab4f45c9a4e89c8ed89e81a"), looks := false }, kinds := [], alts := [], laidByText := true, laidKinds := [.data, .data, .data, .data, .pinned], laidTests := true, laidLooks := .later }
def ViewBuildsCardSaid : Prop := Claim7.holds Tryd.pinned (.plain (OpenSpec.ofChange viewBuildsSpec)) viewBuildsCard

/-- THE TIED CARD OF 'widgetrylaw14.ViewPaths'. -/
def viewPathsCard : Claim7 := { stood := { row := viewPathsRow, standIns := [], harness := (true, "fc655a731df175bc5225b2823f3ea53fe659414f7ab4f45c9a4e89c8ed89e81a"), looks := false }, kinds := [], alts := [], laidByText := true, laidKinds := [.data, .data, .data, .data, .pinned], laidTests := true, laidLooks := .later }
def ViewPathsCardSaid : Prop := Claim7.holds Tryd.pinned (.plain (OpenSpec.ofChange viewPathsSpec)) viewPathsCard

/-- THE TIED CARD OF 'widgetrylaw14.ViewTrees'. -/
def viewTreesCard : Claim7 := { stood := { row := viewTreesRow, standIns := [], harness := (true, "fc655a731df175bc5225b2823f3ea53fe659414f7ab4f45c9a4e89c8ed89e81a"), looks := false }, kinds := [], alts := [], laidByText := true, laidKinds := [.data, .data, .data, .data, .pinned], laidTests := true, laidLooks := .later }
def ViewTreesCardSaid : Prop := Claim7.holds Tryd.pinned (.plain (OpenSpec.ofChange viewTreesSpec)) viewTreesCard

/-- THE SECOND FORM's CARD OF 'widgetrylaw14.ViewKeys'. -/
def viewKeysUptoCard : Claim7 := { stood := { row := viewKeysUptoRow, standIns := [], harness := (true, "fc655a731df175bc5225b2823f3ea53fe659414f7ab4f45c9a4e89c8ed89e81a"), looks := false }, kinds := [], alts := [], laidByText := true, laidKinds := [.data, .data, .data, .data, .pinned], laidTests := true, laidLooks := .later }
def ViewKeysUptoCardSaid : Prop := Claim7.holds Tryd.pinned (.plain (OpenSpec.upto viewKeysSpec)) viewKeysUptoCard

/-- THE SECOND FORM's CARD OF 'widgetrylaw14.ViewSpoilt'. -/
def viewSpoiltUptoCard : Claim7 := { stood := { row := viewSpoiltUptoRow, standIns := [], harness := (true, "fc655a731df175bc5225b2823f3ea53fe659414f7ab4f45c9a4e89c8ed89e81a"), looks := false }, kinds := [], alts := [], laidByText := true, laidKinds := [.data, .data, .data, .data, .pinned], laidTests := true, laidLooks := .later }
def ViewSpoiltUptoCardSaid : Prop := Claim7.holds Tryd.pinned (.plain (OpenSpec.upto viewSpoiltSpec)) viewSpoiltUptoCard

/-- THE SECOND FORM's CARD OF 'widgetrylaw14.ViewNames'. -/
def viewNamesUptoCard : Claim7 := { stood := { row := viewNamesUptoRow, standIns := [], harness := (true, "fc655a731df175bc5225b2823f3ea53fe659414f7ab4f45c9a4e89c8ed89e81a"), looks := false }, kinds := [], alts := [], laidByText := true, laidKinds := [.data, .data, .data, .data, .pinned], laidTests := true, laidLooks := .later }
def ViewNamesUptoCardSaid : Prop := Claim7.holds Tryd.pinned (.plain (OpenSpec.upto viewNamesSpec)) viewNamesUptoCard

/-- THE SECOND FORM's CARD OF 'widgetrylaw14.ViewLimits'. -/
def viewLimitsUptoCard : Claim7 := { stood := { row := viewLimitsUptoRow, standIns := [], harness := (true, "fc655a731df175bc5225b2823f3ea53fe659414f7ab4f45c9a4e89c8ed89e81a"), looks := false }, kinds := [], alts := [], laidByText := true, laidKinds := [.data, .data, .data, .data, .pinned], laidTests := true, laidLooks := .later }
def ViewLimitsUptoCardSaid : Prop := Claim7.holds Tryd.pinned (.plain (OpenSpec.upto viewLimitsSpec)) viewLimitsUptoCard

/-- THE SECOND FORM's CARD OF 'widgetrylaw14.ViewAttrs'. -/
def viewAttrsUptoCard : Claim7 := { stood := { row := viewAttrsUptoRow, standIns := [], harness := (true, "fc655a731df175bc5225b2823f3ea53fe659414f7ab4f45c9a4e89c8ed89e81a"), looks := false }, kinds := [], alts := [], laidByText := true, laidKinds := [.data, .data, .data, .data, .pinned], laidTests := true, laidLooks := .later }
def ViewAttrsUptoCardSaid : Prop := Claim7.holds Tryd.pinned (.plain (OpenSpec.upto viewAttrsSpec)) viewAttrsUptoCard

/-- THE SECOND FORM's CARD OF 'widgetrylaw14.ViewRaw'. -/
def viewRawUptoCard : Claim7 := { stood := { row := viewRawUptoRow, standIns := [], harness := (true, "fc655a731df175bc5225b2823f3ea53fe659414f7ab4f45c9a4e89c8ed89e81a"), looks := false }, kinds := [], alts := [], laidByText := true, laidKinds := [.data, .data, .data, .data, .pinned], laidTests := true, laidLooks := .later }
def ViewRawUptoCardSaid : Prop := Claim7.holds Tryd.pinned (.plain (OpenSpec.upto viewRawSpec)) viewRawUptoCard

/-- THE SECOND FORM's CARD OF 'widgetrylaw14.ViewBuilds'. -/
def viewBuildsUptoCard : Claim7 := { stood := { row := viewBuildsUptoRow, standIns := [], harness := (true, "fc655a731df175bc5225b2823f3ea53fe659414f7ab4f45c9a4e89c8ed89e81a"), looks := false }, kinds := [], alts := [], laidByText := true, laidKinds := [.data, .data, .data, .data, .pinned], laidTests := true, laidLooks := .later }
def ViewBuildsUptoCardSaid : Prop := Claim7.holds Tryd.pinned (.plain (OpenSpec.upto viewBuildsSpec)) viewBuildsUptoCard

/-- THE SECOND FORM's CARD OF 'widgetrylaw14.ViewPaths'. -/
def viewPathsUptoCard : Claim7 := { stood := { row := viewPathsUptoRow, standIns := [], harness := (true, "fc655a731df175bc5225b2823f3ea53fe659414f7ab4f45c9a4e89c8ed89e81a"), looks := false }, kinds := [], alts := [], laidByText := true, laidKinds := [.data, .data, .data, .data, .pinned], laidTests := true, laidLooks := .later }
def ViewPathsUptoCardSaid : Prop := Claim7.holds Tryd.pinned (.plain (OpenSpec.upto viewPathsSpec)) viewPathsUptoCard

/-- THE SECOND FORM's CARD OF 'widgetrylaw14.ViewTrees'. -/
def viewTreesUptoCard : Claim7 := { stood := { row := viewTreesUptoRow, standIns := [], harness := (true, "fc655a731df175bc5225b2823f3ea53fe659414f7ab4f45c9a4e89c8ed89e81a"), looks := false }, kinds := [], alts := [], laidByText := true, laidKinds := [.data, .data, .data, .data, .pinned], laidTests := true, laidLooks := .later }
def ViewTreesUptoCardSaid : Prop := Claim7.holds Tryd.pinned (.plain (OpenSpec.upto viewTreesSpec)) viewTreesUptoCard
end Rows
end Go.Proofs.YtcfegecdlbbeaaaDoor
