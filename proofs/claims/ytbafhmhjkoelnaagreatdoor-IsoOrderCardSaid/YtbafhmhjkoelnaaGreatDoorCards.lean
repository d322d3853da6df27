/-
  DERIVED. GIVEN WITH THE SEED: THE CARDS: each row of YtbafhmhjkoelnaaGreatDoorRows.lean that lists a variable, with what it lists TIED to the program's text (the seventh form; the later family's looks); each row that meets fmt, with fmt's text TOLD by the authors' own Lean function (tested against real Go, not proved from fmt's source: count such statements apart). THE CARD IS WHAT COUNTS. Prove the row's statement (the work); the ties are given (YtbafhmhjkoelnaaGreatDoorTie.lean); close each card by the builder's one call (the guide's Derived/Test/ToyasCard.lean, 'card_holds'). Laid BY PROGRAM, IN A SANDBOX (cutbox-door.mjs). By AI agents, Wed Nov 11 2026. No macro, syntax, notation, axiom, sorry.
-/
import Derived.Test.YtbafhmhjkoelnaaGreatDoorRows
import GoSem.ClaimSeven
namespace Go.Proofs.YtbafhmhjkoelnaaGreatDoor
namespace Rows

/-- THE TIED CARD OF 'bursarlaw19.IsoFields'. -/
def isoFieldsCard : Claim7 := { stood := { row := isoFieldsRow, standIns := [], harness := (true, "52d0b4c5d5c5acf4b9ae2722988a58c4b519f7bc62e1830995f3ca0de3ea3c3f"), looks := true }, kinds := [], alts := [], laidByText := true, laidKinds := [.data, .data, .data, .data, .sentinel, .sentinel, .listed, .data, .pinned], laidTests := true, laidLooks := .later }
def IsoFieldsCardSaid : Prop := Claim7.holds Tryz.pinned (.plain (OpenSpec.ofChange isoFieldsSpec)) isoFieldsCard

/-- THE TIED CARD OF 'bursarlaw19.IsoOrder'. -/
def isoOrderCard : Claim7 := { stood := { row := isoOrderRow, standIns := [], harness := (true, "52d0b4c5d5c5acf4b9ae2722988a58c4b519f7bc62e1830995f3ca0de3ea3c3f"), looks := true }, kinds := [], alts := [], laidByText := true, laidKinds := [.data, .data, .data, .data, .sentinel, .sentinel, .listed, .data, .pinned], laidTests := true, laidLooks := .later }
def IsoOrderCardSaid : Prop := Claim7.holds Tryz.pinned (.plain (OpenSpec.ofChange isoOrderSpec)) isoOrderCard

/-- THE SECOND FORM's CARD OF 'bursarlaw19.IsoFields'. -/
def isoFieldsUptoCard : Claim7 := { stood := { row := isoFieldsUptoRow, standIns := [], harness := (true, "52d0b4c5d5c5acf4b9ae2722988a58c4b519f7bc62e1830995f3ca0de3ea3c3f"), looks := true }, kinds := [], alts := [], laidByText := true, laidKinds := [.data, .data, .data, .data, .sentinel, .sentinel, .listed, .data, .pinned], laidTests := true, laidLooks := .later }
def IsoFieldsUptoCardSaid : Prop := Claim7.holds Tryz.pinned (.plain (OpenSpec.upto isoFieldsSpec)) isoFieldsUptoCard

/-- THE SECOND FORM's CARD OF 'bursarlaw19.IsoOrder'. -/
def isoOrderUptoCard : Claim7 := { stood := { row := isoOrderUptoRow, standIns := [], harness := (true, "52d0b4c5d5c5acf4b9ae2722988a58c4b519f7bc62e1830995f3ca0de3ea3c3f"), looks := true }, kinds := [], alts := [], laidByText := true, laidKinds := [.data, .data, .data, .data, .sentinel, .sentinel, .listed, .data, .pinned], laidTests := true, laidLooks := .later }
def IsoOrderUptoCardSaid : Prop := Claim7.holds Tryz.pinned (.plain (OpenSpec.upto isoOrderSpec)) isoOrderUptoCard
end Rows
end Go.Proofs.YtbafhmhjkoelnaaGreatDoor
