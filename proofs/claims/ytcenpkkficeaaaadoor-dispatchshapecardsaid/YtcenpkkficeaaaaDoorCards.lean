/-
  DERIVED. GIVEN WITH THE SEED: THE CARDS: each row of YtcenpkkficeaaaaDoorRows.lean that lists a variable, with what it lists TIED to the program's text (the seventh form; the later family's looks); each row that meets fmt, with fmt's text TOLD by the authors' own Lean function (tested against real Go, not proved from fmt's source: count such statements apart). THE CARD IS WHAT COUNTS. Prove the row's statement (the work); the ties are given (YtcenpkkficeaaaaDoorTie.lean); close each card by the builder's one call (the guide's Derived/Test/ToyasCard.lean, 'card_holds'). Laid BY PROGRAM, IN A SANDBOX (cutbox-door.mjs). By AI agents, Wed Nov 11 2026. No macro, syntax, notation, axiom, sorry.
-/
import Derived.Test.YtcenpkkficeaaaaDoorRows
import GoSem.ClaimSeven
namespace Go.Proofs.YtcenpkkficeaaaaDoor
namespace Rows

/-- THE TIED CARD OF 'widgetrylaw30.DispatchShape'. -/
def dispatchShapeCard : Claim7 := { stood := { row := dispatchShapeRow, standIns := [], harness := (true, "a26fce08894f8a08989dadb335459040d8e7b468da2b500834c074af11360989"), looks := false }, kinds := [], alts := [], laidByText := true, laidKinds := [.data, .pinned], laidTests := true, laidLooks := .later }
def DispatchShapeCardSaid : Prop := Claim7.holds Tryd.pinned (.plain (OpenSpec.ofChange dispatchShapeSpec)) dispatchShapeCard

/-- THE TIED CARD OF 'widgetrylaw30.DispatchRaw'. -/
def dispatchRawCard : Claim7 := { stood := { row := dispatchRawRow, standIns := [], harness := (true, "a26fce08894f8a08989dadb335459040d8e7b468da2b500834c074af11360989"), looks := false }, kinds := [], alts := [], laidByText := true, laidKinds := [.data, .pinned], laidTests := true, laidLooks := .later }
def DispatchRawCardSaid : Prop := Claim7.holds Tryd.pinned (.plain (OpenSpec.ofChange dispatchRawSpec)) dispatchRawCard

/-- THE TIED CARD OF 'widgetrylaw30.DispatchEnds'. -/
def dispatchEndsCard : Claim7 := { stood := { row := dispatchEndsRow, standIns := [], harness := (true, "a26fce08894f8a08989dadb335459040d8e7b468da2b500834c074af11360989"), looks := false }, kinds := [], alts := [], laidByText := true, laidKinds := [.data, .pinned], laidTests := true, laidLooks := .later }
def DispatchEndsCardSaid : Prop := Claim7.holds Tryd.pinned (.plain (OpenSpec.ofChange dispatchEndsSpec)) dispatchEndsCard

/-- THE TIED CARD OF 'widgetrylaw32.ShortcutTexts'. -/
def shortcutTextsCard : Claim7 := { stood := { row := shortcutTextsRow, standIns := [], harness := (true, "a26fce08894f8a08989dadb335459040d8e7b468da2b500834c074af11360989"), looks := false }, kinds := [], alts := [], laidByText := true, laidKinds := [.data, .pinned], laidTests := true, laidLooks := .later }
def ShortcutTextsCardSaid : Prop := Claim7.holds Tryd.pinned (.plain (OpenSpec.ofChange shortcutTextsSpec)) shortcutTextsCard

/-- THE TIED CARD OF 'widgetrylaw32.ShortcutBack'. -/
def shortcutBackCard : Claim7 := { stood := { row := shortcutBackRow, standIns := [], harness := (true, "a26fce08894f8a08989dadb335459040d8e7b468da2b500834c074af11360989"), looks := false }, kinds := [], alts := [], laidByText := true, laidKinds := [.data, .pinned], laidTests := true, laidLooks := .later }
def ShortcutBackCardSaid : Prop := Claim7.holds Tryd.pinned (.plain (OpenSpec.ofChange shortcutBackSpec)) shortcutBackCard

/-- THE TIED CARD OF 'widgetrylaw32.ShortcutLimits'. -/
def shortcutLimitsCard : Claim7 := { stood := { row := shortcutLimitsRow, standIns := [], harness := (true, "a26fce08894f8a08989dadb335459040d8e7b468da2b500834c074af11360989"), looks := false }, kinds := [], alts := [], laidByText := true, laidKinds := [.data, .pinned], laidTests := true, laidLooks := .later }
def ShortcutLimitsCardSaid : Prop := Claim7.holds Tryd.pinned (.plain (OpenSpec.ofChange shortcutLimitsSpec)) shortcutLimitsCard

/-- THE SECOND FORM's CARD OF 'widgetrylaw30.DispatchShape'. -/
def dispatchShapeUptoCard : Claim7 := { stood := { row := dispatchShapeUptoRow, standIns := [], harness := (true, "a26fce08894f8a08989dadb335459040d8e7b468da2b500834c074af11360989"), looks := false }, kinds := [], alts := [], laidByText := true, laidKinds := [.data, .pinned], laidTests := true, laidLooks := .later }
def DispatchShapeUptoCardSaid : Prop := Claim7.holds Tryd.pinned (.plain (OpenSpec.upto dispatchShapeSpec)) dispatchShapeUptoCard

/-- THE SECOND FORM's CARD OF 'widgetrylaw30.DispatchRaw'. -/
def dispatchRawUptoCard : Claim7 := { stood := { row := dispatchRawUptoRow, standIns := [], harness := (true, "a26fce08894f8a08989dadb335459040d8e7b468da2b500834c074af11360989"), looks := false }, kinds := [], alts := [], laidByText := true, laidKinds := [.data, .pinned], laidTests := true, laidLooks := .later }
def DispatchRawUptoCardSaid : Prop := Claim7.holds Tryd.pinned (.plain (OpenSpec.upto dispatchRawSpec)) dispatchRawUptoCard

/-- THE SECOND FORM's CARD OF 'widgetrylaw30.DispatchEnds'. -/
def dispatchEndsUptoCard : Claim7 := { stood := { row := dispatchEndsUptoRow, standIns := [], harness := (true, "a26fce08894f8a08989dadb335459040d8e7b468da2b500834c074af11360989"), looks := false }, kinds := [], alts := [], laidByText := true, laidKinds := [.data, .pinned], laidTests := true, laidLooks := .later }
def DispatchEndsUptoCardSaid : Prop := Claim7.holds Tryd.pinned (.plain (OpenSpec.upto dispatchEndsSpec)) dispatchEndsUptoCard

/-- THE SECOND FORM's CARD OF 'widgetrylaw32.ShortcutTexts'. -/
def shortcutTextsUptoCard : Claim7 := { stood := { row := shortcutTextsUptoRow, standIns := [], harness := (true, "a26fce08894f8a08989dadb335459040d8e7b468da2b500834c074af11360989"), looks := false }, kinds := [], alts := [], laidByText := true, laidKinds := [.data, .pinned], laidTests := true, laidLooks := .later }
def ShortcutTextsUptoCardSaid : Prop := Claim7.holds Tryd.pinned (.plain (OpenSpec.upto shortcutTextsSpec)) shortcutTextsUptoCard

/-- THE SECOND FORM's CARD OF 'widgetrylaw32.ShortcutBack'. -/
def shortcutBackUptoCard : Claim7 := { stood := { row := shortcutBackUptoRow, standIns := [], harness := (true, "a26fce08894f8a08989dadb335459040d8e7b468da2b500834c074af11360989"), looks := false }, kinds := [], alts := [], laidByText := true, laidKinds := [.data, .pinned], laidTests := true, laidLooks := .later }
def ShortcutBackUptoCardSaid : Prop := Claim7.holds Tryd.pinned (.plain (OpenSpec.upto shortcutBackSpec)) shortcutBackUptoCard

/-- THE SECOND FORM's CARD OF 'widgetrylaw32.ShortcutLimits'. -/
def shortcutLimitsUptoCard : Claim7 := { stood := { row := shortcutLimitsUptoRow, standIns := [], harness := (true, "a26fce08894f8a08989dadb335459040d8e7b468da2b500834c074af11360989"), looks := false }, kinds := [], alts := [], laidByText := true, laidKinds := [.data, .pinned], laidTests := true, laidLooks := .later }
def ShortcutLimitsUptoCardSaid : Prop := Claim7.holds Tryd.pinned (.plain (OpenSpec.upto shortcutLimitsSpec)) shortcutLimitsUptoCard
end Rows
end Go.Proofs.YtcenpkkficeaaaaDoor
