/-
  DERIVED. GIVEN WITH THE SEED: THE CARDS: each row of YtcenpkkficeaaaaGreatDoorRows.lean that lists a variable, with what it lists TIED to the program's text (the seventh form; the later family's looks); each row that meets fmt, with fmt's text TOLD by the authors' own Lean function (tested against real Go, not proved from fmt's source: count such statements apart). THE CARD IS WHAT COUNTS. Prove the row's statement (the work); the ties are given (YtcenpkkficeaaaaGreatDoorTie.lean); close each card by the builder's one call (the guide's Derived/Test/ToyasCard.lean, 'card_holds'). Laid BY PROGRAM, IN A SANDBOX (cutbox-door.mjs). By AI agents, Wed Nov 11 2026. No macro, syntax, notation, axiom, sorry.
-/
import Derived.Test.YtcenpkkficeaaaaGreatDoorRows
import GoSem.ClaimSeven
namespace Go.Proofs.YtcenpkkficeaaaaGreatDoor
namespace Rows

/-- THE TIED CARD OF 'widgetrylaw30.DispatchBuilt'. -/
def dispatchBuiltCard : Claim7 := { stood := { row := dispatchBuiltRow, standIns := [], harness := (true, "7a82e7b0fe33c6c3f17f6be2fe8d3de43fecd52f54d941b6c60513a1619b6cea"), looks := false }, kinds := [], alts := [], laidByText := true, laidKinds := [.data, .pinned], laidTests := true, laidLooks := .later }
def DispatchBuiltCardSaid : Prop := Claim7.holds Tryz.pinned (.plain (OpenSpec.ofChange dispatchBuiltSpec)) dispatchBuiltCard

/-- THE SECOND FORM's CARD OF 'widgetrylaw30.DispatchBuilt'. -/
def dispatchBuiltUptoCard : Claim7 := { stood := { row := dispatchBuiltUptoRow, standIns := [], harness := (true, "7a82e7b0fe33c6c3f17f6be2fe8d3de43fecd52f54d941b6c60513a1619b6cea"), looks := false }, kinds := [], alts := [], laidByText := true, laidKinds := [.data, .pinned], laidTests := true, laidLooks := .later }
def DispatchBuiltUptoCardSaid : Prop := Claim7.holds Tryz.pinned (.plain (OpenSpec.upto dispatchBuiltSpec)) dispatchBuiltUptoCard
end Rows
end Go.Proofs.YtcenpkkficeaaaaGreatDoor
