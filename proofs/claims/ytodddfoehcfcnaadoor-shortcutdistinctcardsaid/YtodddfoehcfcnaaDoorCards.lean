/-
  DERIVED. GIVEN WITH THE SEED: THE CARDS: each row of YtodddfoehcfcnaaDoorRows.lean that lists a variable, with what it lists TIED to the program's text (the seventh form; the later family's looks); each row that meets fmt, with fmt's text TOLD by the authors' own Lean function (tested against real Go, not proved from fmt's source: count such statements apart). THE CARD IS WHAT COUNTS. Prove the row's statement (the work); the ties are given (YtodddfoehcfcnaaDoorTie.lean); close each card by the builder's one call (the guide's Derived/Test/ToyasCard.lean, 'card_holds'). Laid BY PROGRAM, IN A SANDBOX (cutbox-door.mjs). By AI agents, Wed Nov 11 2026. No macro, syntax, notation, axiom, sorry.
-/
import Derived.Test.YtodddfoehcfcnaaDoorRows
import GoSem.ClaimSeven
namespace Go.Proofs.YtodddfoehcfcnaaDoor
namespace Rows

/-- THE TIED CARD OF 'widgetrylaw32.ShortcutLetters'. -/
def shortcutLettersCard : Claim7 := { stood := { row := shortcutLettersRow, standIns := [], harness := (true, "8f84c41d790aaad06fbd370ad2c098981ded34107b3c55dd3034f19e2c6fdc25"), looks := false }, kinds := [], alts := [], laidByText := true, laidKinds := [.data, .pinned], laidTests := true, laidLooks := .later }
def ShortcutLettersCardSaid : Prop := Claim7.holds Tryd.pinned (.plain (OpenSpec.ofChange shortcutLettersSpec)) shortcutLettersCard

/-- THE TIED CARD OF 'widgetrylaw32.ShortcutDistinct'. -/
def shortcutDistinctCard : Claim7 := { stood := { row := shortcutDistinctRow, standIns := [], harness := (true, "8f84c41d790aaad06fbd370ad2c098981ded34107b3c55dd3034f19e2c6fdc25"), looks := false }, kinds := [], alts := [], laidByText := true, laidKinds := [.data, .pinned], laidTests := true, laidLooks := .later }
def ShortcutDistinctCardSaid : Prop := Claim7.holds Tryd.pinned (.plain (OpenSpec.ofChange shortcutDistinctSpec)) shortcutDistinctCard

/-- THE TIED CARD OF 'widgetrylaw32.ShortcutSession'. -/
def shortcutSessionCard : Claim7 := { stood := { row := shortcutSessionRow, standIns := [], harness := (true, "8f84c41d790aaad06fbd370ad2c098981ded34107b3c55dd3034f19e2c6fdc25"), looks := false }, kinds := [], alts := [], laidByText := true, laidKinds := [.data, .pinned], laidTests := true, laidLooks := .later }
def ShortcutSessionCardSaid : Prop := Claim7.holds Tryd.pinned (.plain (OpenSpec.ofChange shortcutSessionSpec)) shortcutSessionCard

/-- THE TIED CARD OF 'widgetrylaw32.ShortcutFeeds'. -/
def shortcutFeedsCard : Claim7 := { stood := { row := shortcutFeedsRow, standIns := [], harness := (true, "8f84c41d790aaad06fbd370ad2c098981ded34107b3c55dd3034f19e2c6fdc25"), looks := false }, kinds := [], alts := [], laidByText := true, laidKinds := [.data, .pinned], laidTests := true, laidLooks := .later }
def ShortcutFeedsCardSaid : Prop := Claim7.holds Tryd.pinned (.plain (OpenSpec.ofChange shortcutFeedsSpec)) shortcutFeedsCard

/-- THE TIED CARD OF 'widgetrylaw32.ShortcutFires'. -/
def shortcutFiresCard : Claim7 := { stood := { row := shortcutFiresRow, standIns := [], harness := (true, "8f84c41d790aaad06fbd370ad2c098981ded34107b3c55dd3034f19e2c6fdc25"), looks := false }, kinds := [], alts := [], laidByText := true, laidKinds := [.data, .pinned], laidTests := true, laidLooks := .later }
def ShortcutFiresCardSaid : Prop := Claim7.holds Tryd.pinned (.plain (OpenSpec.ofChange shortcutFiresSpec)) shortcutFiresCard

/-- THE TIED CARD OF 'widgetrylaw30.DispatchShape'. -/
def dispatchShapeCard : Claim7 := { stood := { row := dispatchShapeRow, standIns := [], harness := (true, "8f84c41d790aaad06fbd370ad2c098981ded34107b3c55dd3034f19e2c6fdc25"), looks := false }, kinds := [], alts := [], laidByText := true, laidKinds := [.data, .pinned], laidTests := true, laidLooks := .later }
def DispatchShapeCardSaid : Prop := Claim7.holds Tryd.pinned (.plain (OpenSpec.ofChange dispatchShapeSpec)) dispatchShapeCard

/-- THE TIED CARD OF 'widgetrylaw30.DispatchRaw'. -/
def dispatchRawCard : Claim7 := { stood := { row := dispatchRawRow, standIns := [], harness := (true, "8f84c41d790aaad06fbd370ad2c098981ded34107b3c55dd3034f19e2c6fdc25"), looks := false }, kinds := [], alts := [], laidByText := true, laidKinds := [.data, .pinned], laidTests := true, laidLooks := .later }
def DispatchRawCardSaid : Prop := Claim7.holds Tryd.pinned (.plain (OpenSpec.ofChange dispatchRawSpec)) dispatchRawCard

/-- THE TIED CARD OF 'widgetrylaw30.DispatchEnds'. -/
def dispatchEndsCard : Claim7 := { stood := { row := dispatchEndsRow, standIns := [], harness := (true, "8f84c41d790aaad06fbd370ad2c098981ded34107b3c55dd3034f19e2c6fdc25"), looks := false }, kinds := [], alts := [], laidByText := true, laidKinds := [.data, .pinned], laidTests := true, laidLooks := .later }
def DispatchEndsCardSaid : Prop := Claim7.holds Tryd.pinned (.plain (OpenSpec.ofChange dispatchEndsSpec)) dispatchEndsCard

/-- THE TIED CARD OF 'widgetrylaw32.ShortcutTexts'. -/
def shortcutTextsCard : Claim7 := { stood := { row := shortcutTextsRow, standIns := [], harness := (true, "8f84c41d790aaad06fbd370ad2c098981ded34107b3c55dd3034f19e2c6fdc25"), looks := false }, kinds := [], alts := [], laidByText := true, laidKinds := [.data, .pinned], laidTests := true, laidLooks := .later }
def ShortcutTextsCardSaid : Prop := Claim7.holds Tryd.pinned (.plain (OpenSpec.ofChange shortcutTextsSpec)) shortcutTextsCard

/-- THE TIED CARD OF 'widgetrylaw32.ShortcutBack'. -/
def shortcutBackCard : Claim7 := { stood := { row := shortcutBackRow, standIns := [], harness := (true, "8f84c41d790aaad06fbd370ad2c098981ded34107b3c55dd3034f19e2c6fdc25"), looks := false }, kinds := [], alts := [], laidByText := true, laidKinds := [.data, .pinned], laidTests := true, laidLooks := .later }
def ShortcutBackCardSaid : Prop := Claim7.holds Tryd.pinned (.plain (OpenSpec.ofChange shortcutBackSpec)) shortcutBackCard

/-- THE TIED CARD OF 'widgetrylaw32.ShortcutLimits'. -/
def shortcutLimitsCard : Claim7 := { stood := { row := shortcutLimitsRow, standIns := [], harness := (true, "8f84c41d790aaad06fbd370ad2c098981ded34107b3c55dd3034f19e2c6fdc25"), looks := false }, kinds := [], alts := [], laidByText := true, laidKinds := [.data, .pinned], laidTests := true, laidLooks := .later }
def ShortcutLimitsCardSaid : Prop := Claim7.holds Tryd.pinned (.plain (OpenSpec.ofChange shortcutLimitsSpec)) shortcutLimitsCard

/-- THE SECOND FORM's CARD OF 'widgetrylaw32.ShortcutLetters'. -/
def shortcutLettersUptoCard : Claim7 := { stood := { row := shortcutLettersUptoRow, standIns := [], harness := (true, "8f84c41d790aaad06fbd370ad2c098981ded34107b3c55dd3034f19e2c6fdc25"), looks := false }, kinds := [], alts := [], laidByText := true, laidKinds := [.data, .pinned], laidTests := true, laidLooks := .later }
def ShortcutLettersUptoCardSaid : Prop := Claim7.holds Tryd.pinned (.plain (OpenSpec.upto shortcutLettersSpec)) shortcutLettersUptoCard

/-- THE SECOND FORM's CARD OF 'widgetrylaw32.ShortcutDistinct'. -/
def shortcutDistinctUptoCard : Claim7 := { stood := { row := shortcutDistinctUptoRow, standIns := [], harness := (true, "8f84c41d790aaad06fbd370ad2c098981ded34107b3c55dd3034f19e2c6fdc25"), looks := false }, kinds := [], alts := [], laidByText := true, laidKinds := [.data, .pinned], laidTests := true, laidLooks := .later }
def ShortcutDistinctUptoCardSaid : Prop := Claim7.holds Tryd.pinned (.plain (OpenSpec.upto shortcutDistinctSpec)) shortcutDistinctUptoCard

/-- THE SECOND FORM's CARD OF 'widgetrylaw32.ShortcutSession'. -/
def shortcutSessionUptoCard : Claim7 := { stood := { row := shortcutSessionUptoRow, standIns := [], harness := (true, "8f84c41d790aaad06fbd370ad2c098981ded34107b3c55dd3034f19e2c6fdc25"), looks := false }, kinds := [], alts := [], laidByText := true, laidKinds := [.data, .pinned], laidTests := true, laidLooks := .later }
def ShortcutSessionUptoCardSaid : Prop := Claim7.holds Tryd.pinned (.plain (OpenSpec.upto shortcutSessionSpec)) shortcutSessionUptoCard

/-- THE SECOND FORM's CARD OF 'widgetrylaw32.ShortcutFeeds'. -/
def shortcutFeedsUptoCard : Claim7 := { stood := { row := shortcutFeedsUptoRow, standIns := [], harness := (true, "8f84c41d790aaad06fbd370ad2c098981ded34107b3c55dd3034f19e2c6fdc25"), looks := false }, kinds := [], alts := [], laidByText := true, laidKinds := [.data, .pinned], laidTests := true, laidLooks := .later }
def ShortcutFeedsUptoCardSaid : Prop := Claim7.holds Tryd.pinned (.plain (OpenSpec.upto shortcutFeedsSpec)) shortcutFeedsUptoCard

/-- THE SECOND FORM's CARD OF 'widgetrylaw32.ShortcutFires'. -/
def shortcutFiresUptoCard : Claim7 := { stood := { row := shortcutFiresUptoRow, standIns := [], harness := (true, "8f84c41d790aaad06fbd370ad2c098981ded34107b3c55dd3034f19e2c6fdc25"), looks := false }, kinds := [], alts := [], laidByText := true, laidKinds := [.data, .pinned], laidTests := true, laidLooks := .later }
def ShortcutFiresUptoCardSaid : Prop := Claim7.holds Tryd.pinned (.plain (OpenSpec.upto shortcutFiresSpec)) shortcutFiresUptoCard

/-- THE SECOND FORM's CARD OF 'widgetrylaw30.DispatchShape'. -/
def dispatchShapeUptoCard : Claim7 := { stood := { row := dispatchShapeUptoRow, standIns := [], harness := (true, "8f84c41d790aaad06fbd370ad2c098981ded34107b3c55dd3034f19e2c6fdc25"), looks := false }, kinds := [], alts := [], laidByText := true, laidKinds := [.data, .pinned], laidTests := true, laidLooks := .later }
def DispatchShapeUptoCardSaid : Prop := Claim7.holds Tryd.pinned (.plain (OpenSpec.upto dispatchShapeSpec)) dispatchShapeUptoCard

/-- THE SECOND FORM's CARD OF 'widgetrylaw30.DispatchRaw'. -/
def dispatchRawUptoCard : Claim7 := { stood := { row := dispatchRawUptoRow, standIns := [], harness := (true, "8f84c41d790aaad06fbd370ad2c098981ded34107b3c55dd3034f19e2c6fdc25"), looks := false }, kinds := [], alts := [], laidByText := true, laidKinds := [.data, .pinned], laidTests := true, laidLooks := .later }
def DispatchRawUptoCardSaid : Prop := Claim7.holds Tryd.pinned (.plain (OpenSpec.upto dispatchRawSpec)) dispatchRawUptoCard

/-- THE SECOND FORM's CARD OF 'widgetrylaw30.DispatchEnds'. -/
def dispatchEndsUptoCard : Claim7 := { stood := { row := dispatchEndsUptoRow, standIns := [], harness := (true, "8f84c41d790aaad06fbd370ad2c098981ded34107b3c55dd3034f19e2c6fdc25"), looks := false }, kinds := [], alts := [], laidByText := true, laidKinds := [.data, .pinned], laidTests := true, laidLooks := .later }
def DispatchEndsUptoCardSaid : Prop := Claim7.holds Tryd.pinned (.plain (OpenSpec.upto dispatchEndsSpec)) dispatchEndsUptoCard

/-- THE SECOND FORM's CARD OF 'widgetrylaw32.ShortcutTexts'. -/
def shortcutTextsUptoCard : Claim7 := { stood := { row := shortcutTextsUptoRow, standIns := [], harness := (true, "8f84c41d790aaad06fbd370ad2c098981ded34107b3c55dd3034f19e2c6fdc25"), looks := false }, kinds := [], alts := [], laidByText := true, laidKinds := [.data, .pinned], laidTests := true, laidLooks := .later }
def ShortcutTextsUptoCardSaid : Prop := Claim7.holds Tryd.pinned (.plain (OpenSpec.upto shortcutTextsSpec)) shortcutTextsUptoCard

/-- THE SECOND FORM's CARD OF 'widgetrylaw32.ShortcutBack'. -/
def shortcutBackUptoCard : Claim7 := { stood := { row := shortcutBackUptoRow, standIns := [], harness := (true, "8f84c41d790aaad06fbd370ad2c098981ded34107b3c55dd3034f19e2c6fdc25"), looks := false }, kinds := [], alts := [], laidByText := true, laidKinds := [.data, .pinned], laidTests := true, laidLooks := .later }
def ShortcutBackUptoCardSaid : Prop := Claim7.holds Tryd.pinned (.plain (OpenSpec.upto shortcutBackSpec)) shortcutBackUptoCard

/-- THE SECOND FORM's CARD OF 'widgetrylaw32.ShortcutLimits'. -/
def shortcutLimitsUptoCard : Claim7 := { stood := { row := shortcutLimitsUptoRow, standIns := [], harness := (true, "8f84c41d790aaad06fbd370ad2c098981ded34107b3c55dd3034f19e2c6fdc25"), looks := false }, kinds := [], alts := [], laidByText := true, laidKinds := [.data, .pinned], laidTests := true, laidLooks := .later }
def ShortcutLimitsUptoCardSaid : Prop := Claim7.holds Tryd.pinned (.plain (OpenSpec.upto shortcutLimitsSpec)) shortcutLimitsUptoCard
end Rows
end Go.Proofs.YtodddfoehcfcnaaDoor
