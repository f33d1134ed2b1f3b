/-
  DERIVED. GIVEN WITH THE SEED: THE CARDS: each row of YtfoigppmcelgfaaDoorRows.lean that lists a variable, with what it lists TIED to the program's text (the seventh form; the later family's looks); each row that meets fmt, with fmt's text TOLD by the authors' own Lean function (tested against real Go, not proved from fmt's source: count such statements apart). THE CARD IS WHAT COUNTS. Prove the row's statement (the work); the ties are given (YtfoigppmcelgfaaDoorTie.lean); close each card by the builder's one call (the guide's Derived/Test/ToyasCard.lean, 'card_holds'). Laid BY PROGRAM, IN A SANDBOX (cutbox-door.mjs). By AI agents, Wed Nov 11 2026. No macro, syntax, notation, axiom, sorry.
-/
import Derived.Test.YtfoigppmcelgfaaDoorRows
import GoSem.ClaimSeven
namespace Go.Proofs.YtfoigppmcelgfaaDoor
namespace Rows

/-- THE TIED CARD OF 'widgetrylaw29.HitOrder'. -/
def hitOrderCard : Claim7 := { stood := { row := hitOrderRow, standIns := [], harness := (true, "1591c6fcc847ab55cc613365bc687cc316b6bb9a41dbd37ec885ec3c957177b5"), looks := false }, kinds := [], alts := [], laidByText := true, laidKinds := [.data, .data, .pinned], laidTests := true, laidLooks := .later }
def HitOrderCardSaid : Prop := Claim7.holds Tryd.pinned (.plain (OpenSpec.ofChange hitOrderSpec)) hitOrderCard

/-- THE TIED CARD OF 'widgetrylaw31.FocusTabs'. -/
def focusTabsCard : Claim7 := { stood := { row := focusTabsRow, standIns := [], harness := (true, "1591c6fcc847ab55cc613365bc687cc316b6bb9a41dbd37ec885ec3c957177b5"), looks := false }, kinds := [], alts := [], laidByText := true, laidKinds := [.data, .data, .pinned], laidTests := true, laidLooks := .later }
def FocusTabsCardSaid : Prop := Claim7.holds Tryd.pinned (.plain (OpenSpec.ofChange focusTabsSpec)) focusTabsCard

/-- THE TIED CARD OF 'widgetrylaw31.FocusPast'. -/
def focusPastCard : Claim7 := { stood := { row := focusPastRow, standIns := [], harness := (true, "1591c6fcc847ab55cc613365bc687cc316b6bb9a41dbd37ec885ec3c957177b5"), looks := false }, kinds := [], alts := [], laidByText := true, laidKinds := [.data, .data, .pinned], laidTests := true, laidLooks := .later }
def FocusPastCardSaid : Prop := Claim7.holds Tryd.pinned (.plain (OpenSpec.ofChange focusPastSpec)) focusPastCard

/-- THE TIED CARD OF 'widgetrylaw31.FocusDialog'. -/
def focusDialogCard : Claim7 := { stood := { row := focusDialogRow, standIns := [], harness := (true, "1591c6fcc847ab55cc613365bc687cc316b6bb9a41dbd37ec885ec3c957177b5"), looks := false }, kinds := [], alts := [], laidByText := true, laidKinds := [.data, .data, .pinned], laidTests := true, laidLooks := .later }
def FocusDialogCardSaid : Prop := Claim7.holds Tryd.pinned (.plain (OpenSpec.ofChange focusDialogSpec)) focusDialogCard

/-- THE SECOND FORM's CARD OF 'widgetrylaw29.HitOrder'. -/
def hitOrderUptoCard : Claim7 := { stood := { row := hitOrderUptoRow, standIns := [], harness := (true, "1591c6fcc847ab55cc613365bc687cc316b6bb9a41dbd37ec885ec3c957177b5"), looks := false }, kinds := [], alts := [], laidByText := true, laidKinds := [.data, .data, .pinned], laidTests := true, laidLooks := .later }
def HitOrderUptoCardSaid : Prop := Claim7.holds Tryd.pinned (.plain (OpenSpec.upto hitOrderSpec)) hitOrderUptoCard

/-- THE SECOND FORM's CARD OF 'widgetrylaw31.FocusTabs'. -/
def focusTabsUptoCard : Claim7 := { stood := { row := focusTabsUptoRow, standIns := [], harness := (true, "1591c6fcc847ab55cc613365bc687cc316b6bb9a41dbd37ec885ec3c957177b5"), looks := false }, kinds := [], alts := [], laidByText := true, laidKinds := [.data, .data, .pinned], laidTests := true, laidLooks := .later }
def FocusTabsUptoCardSaid : Prop := Claim7.holds Tryd.pinned (.plain (OpenSpec.upto focusTabsSpec)) focusTabsUptoCard

/-- THE SECOND FORM's CARD OF 'widgetrylaw31.FocusPast'. -/
def focusPastUptoCard : Claim7 := { stood := { row := focusPastUptoRow, standIns := [], harness := (true, "1591c6fcc847ab55cc613365bc687cc316b6bb9a41dbd37ec885ec3c957177b5"), looks := false }, kinds := [], alts := [], laidByText := true, laidKinds := [.data, .data, .pinned], laidTests := true, laidLooks := .later }
def FocusPastUptoCardSaid : Prop := Claim7.holds Tryd.pinned (.plain (OpenSpec.upto focusPastSpec)) focusPastUptoCard

/-- THE SECOND FORM's CARD OF 'widgetrylaw31.FocusDialog'. -/
def focusDialogUptoCard : Claim7 := { stood := { row := focusDialogUptoRow, standIns := [], harness := (true, "1591c6fcc847ab55cc613365bc687cc316b6bb9a41dbd37ec885ec3c957177b5"), looks := false }, kinds := [], alts := [], laidByText := true, laidKinds := [.data, .data, .pinned], laidTests := true, laidLooks := .later }
def FocusDialogUptoCardSaid : Prop := Claim7.holds Tryd.pinned (.plain (OpenSpec.upto focusDialogSpec)) focusDialogUptoCard
end Rows
end Go.Proofs.YtfoigppmcelgfaaDoor
