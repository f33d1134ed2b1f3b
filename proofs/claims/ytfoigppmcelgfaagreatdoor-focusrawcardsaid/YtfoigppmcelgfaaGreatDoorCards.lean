/-
  DERIVED. GIVEN WITH THE SEED: THE CARDS: each row of YtfoigppmcelgfaaGreatDoorRows.lean that lists a variable, with what it lists TIED to the program's text (the seventh form; the later family's looks); each row that meets fmt, with fmt's text TOLD by the authors' own Lean function (tested against real Go, not proved from fmt's source: count such statements apart). THE CARD IS WHAT COUNTS. Prove the row's statement (the work); the ties are given (YtfoigppmcelgfaaGreatDoorTie.lean); close each card by the builder's one call (the guide's Derived/Test/ToyasCard.lean, 'card_holds'). Laid BY PROGRAM, IN A SANDBOX (cutbox-door.mjs). By AI agents, Wed Nov 11 2026. No macro, syntax, notation, axiom, sorry.
-/
import Derived.Test.YtfoigppmcelgfaaGreatDoorRows
import GoSem.ClaimSeven
namespace Go.Proofs.YtfoigppmcelgfaaGreatDoor
namespace Rows

/-- THE TIED CARD OF 'widgetrylaw37.AccessibleScrolls'. -/
def accessibleScrollsCard : Claim7 := { stood := { row := accessibleScrollsRow, standIns := [], harness := (true, "de393c1f781bcbaa17eefc62852b66957236f799d412dad56d4a7afe8178a217"), looks := false }, kinds := [], alts := [], laidByText := true, laidKinds := [.data, .data, .pinned], laidTests := true, laidLooks := .later }
def AccessibleScrollsCardSaid : Prop := Claim7.holds Tryz.pinned (.plain (OpenSpec.ofChange accessibleScrollsSpec)) accessibleScrollsCard

/-- THE TIED CARD OF 'widgetrylaw37.AccessibleSliders'. -/
def accessibleSlidersCard : Claim7 := { stood := { row := accessibleSlidersRow, standIns := [], harness := (true, "de393c1f781bcbaa17eefc62852b66957236f799d412dad56d4a7afe8178a217"), looks := false }, kinds := [], alts := [], laidByText := true, laidKinds := [.data, .data, .pinned], laidTests := true, laidLooks := .later }
def AccessibleSlidersCardSaid : Prop := Claim7.holds Tryz.pinned (.plain (OpenSpec.ofChange accessibleSlidersSpec)) accessibleSlidersCard

/-- THE TIED CARD OF 'widgetrylaw31.FocusRaw'. -/
def focusRawCard : Claim7 := { stood := { row := focusRawRow, standIns := [], harness := (true, "de393c1f781bcbaa17eefc62852b66957236f799d412dad56d4a7afe8178a217"), looks := false }, kinds := [], alts := [], laidByText := true, laidKinds := [.data, .data, .pinned], laidTests := true, laidLooks := .later }
def FocusRawCardSaid : Prop := Claim7.holds Tryz.pinned (.plain (OpenSpec.ofChange focusRawSpec)) focusRawCard

/-- THE TIED CARD OF 'widgetrylaw38.NameClean'. -/
def nameCleanCard : Claim7 := { stood := { row := nameCleanRow, standIns := [], harness := (true, "de393c1f781bcbaa17eefc62852b66957236f799d412dad56d4a7afe8178a217"), looks := false }, kinds := [], alts := [], laidByText := true, laidKinds := [.data, .data, .data, .data, .data, .pinned], laidTests := true, laidLooks := .later }
def NameCleanCardSaid : Prop := Claim7.holds Tryz.pinned (.plain (OpenSpec.ofChange nameCleanSpec)) nameCleanCard

/-- THE TIED CARD OF 'widgetrylaw38.NameLimits'. -/
def nameLimitsCard : Claim7 := { stood := { row := nameLimitsRow, standIns := [], harness := (true, "de393c1f781bcbaa17eefc62852b66957236f799d412dad56d4a7afe8178a217"), looks := false }, kinds := [], alts := [], laidByText := true, laidKinds := [.data, .data, .data, .data, .data, .pinned], laidTests := true, laidLooks := .later }
def NameLimitsCardSaid : Prop := Claim7.holds Tryz.pinned (.plain (OpenSpec.ofChange nameLimitsSpec)) nameLimitsCard

/-- THE TIED CARD OF 'widgetrylaw38.NameOrder'. -/
def nameOrderCard : Claim7 := { stood := { row := nameOrderRow, standIns := [], harness := (true, "de393c1f781bcbaa17eefc62852b66957236f799d412dad56d4a7afe8178a217"), looks := false }, kinds := [], alts := [], laidByText := true, laidKinds := [.data, .data, .data, .data, .data, .pinned], laidTests := true, laidLooks := .later }
def NameOrderCardSaid : Prop := Claim7.holds Tryz.pinned (.plain (OpenSpec.ofChange nameOrderSpec)) nameOrderCard

/-- THE SECOND FORM's CARD OF 'widgetrylaw37.AccessibleScrolls'. -/
def accessibleScrollsUptoCard : Claim7 := { stood := { row := accessibleScrollsUptoRow, standIns := [], harness := (true, "de393c1f781bcbaa17eefc62852b66957236f799d412dad56d4a7afe8178a217"), looks := false }, kinds := [], alts := [], laidByText := true, laidKinds := [.data, .data, .pinned], laidTests := true, laidLooks := .later }
def AccessibleScrollsUptoCardSaid : Prop := Claim7.holds Tryz.pinned (.plain (OpenSpec.upto accessibleScrollsSpec)) accessibleScrollsUptoCard

/-- THE SECOND FORM's CARD OF 'widgetrylaw37.AccessibleSliders'. -/
def accessibleSlidersUptoCard : Claim7 := { stood := { row := accessibleSlidersUptoRow, standIns := [], harness := (true, "de393c1f781bcbaa17eefc62852b66957236f799d412dad56d4a7afe8178a217"), looks := false }, kinds := [], alts := [], laidByText := true, laidKinds := [.data, .data, .pinned], laidTests := true, laidLooks := .later }
def AccessibleSlidersUptoCardSaid : Prop := Claim7.holds Tryz.pinned (.plain (OpenSpec.upto accessibleSlidersSpec)) accessibleSlidersUptoCard

/-- THE SECOND FORM's CARD OF 'widgetrylaw31.FocusRaw'. -/
def focusRawUptoCard : Claim7 := { stood := { row := focusRawUptoRow, standIns := [], harness := (true, "de393c1f781bcbaa17eefc62852b66957236f799d412dad56d4a7afe8178a217"), looks := false }, kinds := [], alts := [], laidByText := true, laidKinds := [.data, .data, .pinned], laidTests := true, laidLooks := .later }
def FocusRawUptoCardSaid : Prop := Claim7.holds Tryz.pinned (.plain (OpenSpec.upto focusRawSpec)) focusRawUptoCard

/-- THE SECOND FORM's CARD OF 'widgetrylaw38.NameClean'. -/
def nameCleanUptoCard : Claim7 := { stood := { row := nameCleanUptoRow, standIns := [], harness := (true, "de393c1f781bcbaa17eefc62852b66957236f799d412dad56d4a7afe8178a217"), looks := false }, kinds := [], alts := [], laidByText := true, laidKinds := [.data, .data, .data, .data, .data, .pinned], laidTests := true, laidLooks := .later }
def NameCleanUptoCardSaid : Prop := Claim7.holds Tryz.pinned (.plain (OpenSpec.upto nameCleanSpec)) nameCleanUptoCard

/-- THE SECOND FORM's CARD OF 'widgetrylaw38.NameLimits'. -/
def nameLimitsUptoCard : Claim7 := { stood := { row := nameLimitsUptoRow, standIns := [], harness := (true, "de393c1f781bcbaa17eefc62852b66957236f799d412dad56d4a7afe8178a217"), looks := false }, kinds := [], alts := [], laidByText := true, laidKinds := [.data, .data, .data, .data, .data, .pinned], laidTests := true, laidLooks := .later }
def NameLimitsUptoCardSaid : Prop := Claim7.holds Tryz.pinned (.plain (OpenSpec.upto nameLimitsSpec)) nameLimitsUptoCard

/-- THE SECOND FORM's CARD OF 'widgetrylaw38.NameOrder'. -/
def nameOrderUptoCard : Claim7 := { stood := { row := nameOrderUptoRow, standIns := [], harness := (true, "de393c1f781bcbaa17eefc62852b66957236f799d412dad56d4a7afe8178a217"), looks := false }, kinds := [], alts := [], laidByText := true, laidKinds := [.data, .data, .data, .data, .data, .pinned], laidTests := true, laidLooks := .later }
def NameOrderUptoCardSaid : Prop := Claim7.holds Tryz.pinned (.plain (OpenSpec.upto nameOrderSpec)) nameOrderUptoCard
end Rows
end Go.Proofs.YtfoigppmcelgfaaGreatDoor
