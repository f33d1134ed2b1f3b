/-
  DERIVED. GIVEN WITH THE SEED: THE CARDS: each row of YtcfegecdlbbeaaaGreatDoorRows.lean that lists a variable, with what it lists TIED to the program's text (the seventh form; the later family's looks); each row that meets fmt, with fmt's text TOLD by the authors' own Lean function (tested against real Go, not proved from fmt's source: count such statements apart). THE CARD IS WHAT COUNTS. Prove the row's statement (the work); the ties are given (YtcfegecdlbbeaaaGreatDoorTie.lean); close each card by the builder's one call (the guide's Derived/Test/ToyasCard.lean, 'card_holds'). Laid BY PROGRAM, IN A SANDBOX (cutbox-door.mjs). By AI agents, Wed Nov 11 2026. No macro, syntax, notation, axiom, sorry.
-/
import Derived.Test.YtcfegecdlbbeaaaGreatDoorRows
import GoSem.ClaimSeven
namespace Go.Proofs.YtcfegecdlbbeaaaGreatDoor
namespace Rows

/-- THE TIED CARD OF 'widgetrylaw14.ViewTreesSpoilt'. -/
def viewTreesSpoiltCard : Claim7 := { stood := { row := viewTreesSpoiltRow, standIns := [], harness := (true, "4da966f279e99a86c9111dfc679b93de3ab23644fea2f5806fc0b141c902a214"), looks := false }, kinds := [], alts := [], laidByText := true, laidKinds := [.data, .data, .data, .data, .pinned], laidTests := true, laidLooks := .later }
def ViewTreesSpoiltCardSaid : Prop := Claim7.holds Tryz.pinned (.plain (OpenSpec.ofChange viewTreesSpoiltSpec)) viewTreesSpoiltCard

/-- THE SECOND FORM's CARD OF 'widgetrylaw14.ViewTreesSpoilt'. -/
def viewTreesSpoiltUptoCard : Claim7 := { stood := { row := viewTreesSpoiltUptoRow, standIns := [], harness := (true, "4da966f279e99a86c9111dfc679b93de3ab23644fea2f5806fc0b141c902a214"), looks := false }, kinds := [], alts := [], laidByText := true, laidKinds := [.data, .data, .data, .data, .pinned], laidTests := true, laidLooks := .later }
def ViewTreesSpoiltUptoCardSaid : Prop := Claim7.holds Tryz.pinned (.plain (OpenSpec.upto viewTreesSpoiltSpec)) viewTreesSpoiltUptoCard
end Rows
end Go.Proofs.YtcfegecdlbbeaaaGreatDoor
