/-
  DERIVED. GIVEN WITH THE SEED: THE CARDS: each row of YtjiaoppefinljaaGreatDoorRows.lean that lists a variable, with what it lists TIED to the program's text (the seventh form; the later family's looks); each row that meets fmt, with fmt's text TOLD by the authors' own Lean function (tested against real Go, not proved from fmt's source: count such statements apart). THE CARD IS WHAT COUNTS. Prove the row's statement (the work); the ties are given (YtjiaoppefinljaaGreatDoorTie.lean); close each card by the builder's one call (the guide's Derived/Test/ToyasCard.lean, 'card_holds'). Laid BY PROGRAM, IN A SANDBOX (cutbox-door.mjs). By AI agents, Wed Nov 11 2026. No macro, syntax, notation, axiom, sorry.
-/
import Derived.Test.YtjiaoppefinljaaGreatDoorRows
import GoSem.ClaimSeven
namespace Go.Proofs.YtjiaoppefinljaaGreatDoor
namespace Rows

/-- THE TIED CARD OF 'homecomingtop.TopBytes'. -/
def topBytesCard : Claim7 := { stood := { row := topBytesRow, standIns := [], harness := (true, "afe250588a6dc981ca84152c0c2ae2ccbe69f02346fb932d50207090f3d89c1f"), looks := false }, kinds := [], alts := [], laidByText := true, laidKinds := [.data, .data, .data, .data, .pinned], laidTests := true, laidLooks := .later }
def TopBytesCardSaid : Prop := Claim7.holds Tryz.pinned (.plain (OpenSpec.ofChange topBytesSpec)) topBytesCard

/-- THE SECOND FORM's CARD OF 'homecomingtop.TopBytes'. -/
def topBytesUptoCard : Claim7 := { stood := { row := topBytesUptoRow, standIns := [], harness := (true, "afe250588a6dc981ca84152c0c2ae2ccbe69f02346fb932d50207090f3d89c1f"), looks := false }, kinds := [], alts := [], laidByText := true, laidKinds := [.data, .data, .data, .data, .pinned], laidTests := true, laidLooks := .later }
def TopBytesUptoCardSaid : Prop := Claim7.holds Tryz.pinned (.plain (OpenSpec.upto topBytesSpec)) topBytesUptoCard
end Rows
end Go.Proofs.YtjiaoppefinljaaGreatDoor
