/-
  DERIVED. GIVEN WITH THE SEED: THE CARDS: each row of YtobiohcdpfpefaaDoorRows.lean that lists a variable, with what it lists TIED to the program's text (the seventh form; the later family's looks); each row that meets fmt, with fmt's text TOLD by the authors' own Lean function (tested against real Go, not proved from fmt's source: count such statements apart). THE CARD IS WHAT COUNTS. Prove the row's statement (the work); the ties are given (YtobiohcdpfpefaaDoorTie.lean); close each card by the builder's one call (the guide's Derived/Test/ToyasCard.lean, 'card_holds'). Laid BY PROGRAM, IN A SANDBOX (cutbox-door.mjs). By AI agents, Wed Nov 11 2026. No macro, syntax, notation, axiom, sorry.
-/
import Derived.Test.YtobiohcdpfpefaaDoorRows
import GoSem.ClaimSeven
namespace Go.Proofs.YtobiohcdpfpefaaDoor
namespace Rows

/-- THE TIED CARD OF 'widgetrylaw32.ShortcutTexts'. -/
def shortcutTextsCard : Claim7 := { stood := { row := shortcutTextsRow, standIns := [], harness := (true, "7be3d58119a6f9eeff455256437a9a5224f200148ab05f2dd380b3cdf826901a"), looks := false }, kinds := [], alts := [], laidByText := true, laidKinds := [.data, .pinned], laidTests := true, laidLooks := .later }
def ShortcutTextsCardSaid : Prop := Claim7.holds Tryd.pinned (.plain (OpenSpec.ofChange shortcutTextsSpec)) shortcutTextsCard

/-- THE TIED CARD OF 'widgetrylaw32.ShortcutBack'. -/
def shortcutBackCard : Claim7 := { stood := { row := shortcutBackRow, standIns := [], harness := (true, "7be3d58119a6f9eeff455256437a9a5224f200148ab05f2dd380b3cdf826901a"), looks := false }, kinds := [], alts := [], laidByText := true, laidKinds := [.data, .pinned], laidTests := true, laidLooks := .later }
def ShortcutBackCardSaid : Prop := Claim7.holds Tryd.pinned (.plain (OpenSpec.ofChange shortcutBackSpec)) shortcutBackCard

/-- THE TIED CARD OF 'widgetrylaw32.ShortcutLimits'. -/
def shortcutLimitsCard : Claim7 := { stood := { row := shortcutLimitsRow, standIns := [], harness := (true, "7be3d58119a6f9eeff455256437a9a5224f200148ab05f2dd380b3cdf826901a"), looks := false }, kinds := [], alts := [], laidByText := true, laidKinds := [.data, .pinned], laidTests := true, laidLooks := .later }
def ShortcutLimitsCardSaid : Prop := Claim7.holds Tryd.pinned (.plain (OpenSpec.ofChange shortcutLimitsSpec)) shortcutLimitsCard

/-- THE TIED CARD OF 'widgetrylaw32.ShortcutScopes'. -/
def shortcutScopesCard : Claim7 := { stood := { row := shortcutScopesRow, standIns := [], harness := (true, "7be3d58119a6f9eeff455256437a9a5224f200148ab05f2dd380b3cdf826901a"), looks := false }, kinds := [], alts := [], laidByText := true, laidKinds := [.data, .data, .pinned], laidTests := true, laidLooks := .later }
def ShortcutScopesCardSaid : Prop := Claim7.holds Tryd.pinned (.plain (OpenSpec.ofChange shortcutScopesSpec)) shortcutScopesCard

/-- THE SECOND FORM's CARD OF 'widgetrylaw32.ShortcutTexts'. -/
def shortcutTextsUptoCard : Claim7 := { stood := { row := shortcutTextsUptoRow, standIns := [], harness := (true, "7be3d58119a6f9eeff455256437a9a5224f200148ab05f2dd380b3cdf826901a"), looks := false }, kinds := [], alts := [], laidByText := true, laidKinds := [.data, .pinned], laidTests := true, laidLooks := .later }
def ShortcutTextsUptoCardSaid : Prop := Claim7.holds Tryd.pinned (.plain (OpenSpec.upto shortcutTextsSpec)) shortcutTextsUptoCard

/-- THE SECOND FORM's CARD OF 'widgetrylaw32.ShortcutBack'. -/
def shortcutBackUptoCard : Claim7 := { stood := { row := shortcutBackUptoRow, standIns := [], harness := (true, "7be3d58119a6f9eeff455256437a9a5224f200148ab05f2dd380b3cdf826901a"), looks := false }, kinds := [], alts := [], laidByText := true, laidKinds := [.data, .pinned], laidTests := true, laidLooks := .later }
def ShortcutBackUptoCardSaid : Prop := Claim7.holds Tryd.pinned (.plain (OpenSpec.upto shortcutBackSpec)) shortcutBackUptoCard

/-- THE SECOND FORM's CARD OF 'widgetrylaw32.ShortcutLimits'. -/
def shortcutLimitsUptoCard : Claim7 := { stood := { row := shortcutLimitsUptoRow, standIns := [], harness := (true, "7be3d58119a6f9eeff455256437a9a5224f200148ab05f2dd380b3cdf826901a"), looks := false }, kinds := [], alts := [], laidByText := true, laidKinds := [.data, .pinned], laidTests := true, laidLooks := .later }
def ShortcutLimitsUptoCardSaid : Prop := Claim7.holds Tryd.pinned (.plain (OpenSpec.upto shortcutLimitsSpec)) shortcutLimitsUptoCard

/-- THE SECOND FORM's CARD OF 'widgetrylaw32.ShortcutScopes'. -/
def shortcutScopesUptoCard : Claim7 := { stood := { row := shortcutScopesUptoRow, standIns := [], harness := (true, "7be3d58119a6f9eeff455256437a9a5224f200148ab05f2dd380b3cdf826901a"), looks := false }, kinds := [], alts := [], laidByText := true, laidKinds := [.data, .data, .pinned], laidTests := true, laidLooks := .later }
def ShortcutScopesUptoCardSaid : Prop := Claim7.holds Tryd.pinned (.plain (OpenSpec.upto shortcutScopesSpec)) shortcutScopesUptoCard
end Rows
end Go.Proofs.YtobiohcdpfpefaaDoor
