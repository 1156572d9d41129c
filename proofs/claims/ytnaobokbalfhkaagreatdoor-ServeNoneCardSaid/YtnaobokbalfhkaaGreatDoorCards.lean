/-
  DERIVED. GIVEN WITH THE SEED: THE CARDS: each row of YtnaobokbalfhkaaGreatDoorRows.lean that lists a variable, with what it lists TIED to the program's text (the seventh form; the later family's looks); each row that meets fmt, with fmt's text TOLD by the authors' own Lean function (tested against real Go, not proved from fmt's source: count such statements apart). THE CARD IS WHAT COUNTS. Prove the row's statement (the work); the ties are given (YtnaobokbalfhkaaGreatDoorTie.lean); close each card by the builder's one call (the guide's Derived/Test/ToyasCard.lean, 'card_holds'). Laid BY PROGRAM, IN A SANDBOX (cutbox-door.mjs). By AI agents, Wed Nov 11 2026. No macro, syntax, notation, axiom, sorry.
-/
import Derived.Test.YtnaobokbalfhkaaGreatDoorRows
import GoSem.ClaimSeven
namespace Go.Proofs.YtnaobokbalfhkaaGreatDoor
namespace Rows

/-- THE TIED CARD OF 'seinelaw36.ServeWords'. -/
def serveWordsCard : Claim7 := { stood := { row := serveWordsRow, standIns := [], harness := (true, "24abf8f72ffa5a77544ecc0debf5cd847b87bed06a97dafa9f6a7438a02d650c"), looks := true }, kinds := [], alts := [], laidByText := true, laidKinds := [.sentinel, .sentinel, .data, .data, .data, .pinned, .data], laidTests := true, laidLooks := .later }
def ServeWordsCardSaid : Prop := Claim7.holds Tryz.pinned (.plain (OpenSpec.ofChange serveWordsSpec)) serveWordsCard

/-- THE TIED CARD OF 'seinelaw36.ServeNone'. -/
def serveNoneCard : Claim7 := { stood := { row := serveNoneRow, standIns := [], harness := (true, "24abf8f72ffa5a77544ecc0debf5cd847b87bed06a97dafa9f6a7438a02d650c"), looks := true }, kinds := [], alts := [], laidByText := true, laidKinds := [.sentinel, .sentinel, .data, .data, .data, .pinned, .data], laidTests := true, laidLooks := .later }
def ServeNoneCardSaid : Prop := Claim7.holds Tryz.pinned (.plain (OpenSpec.ofChange serveNoneSpec)) serveNoneCard

/-- THE SECOND FORM's CARD OF 'seinelaw36.ServeWords'. -/
def serveWordsUptoCard : Claim7 := { stood := { row := serveWordsUptoRow, standIns := [], harness := (true, "24abf8f72ffa5a77544ecc0debf5cd847b87bed06a97dafa9f6a7438a02d650c"), looks := true }, kinds := [], alts := [], laidByText := true, laidKinds := [.sentinel, .sentinel, .data, .data, .data, .pinned, .data], laidTests := true, laidLooks := .later }
def ServeWordsUptoCardSaid : Prop := Claim7.holds Tryz.pinned (.plain (OpenSpec.upto serveWordsSpec)) serveWordsUptoCard

/-- THE SECOND FORM's CARD OF 'seinelaw36.ServeNone'. -/
def serveNoneUptoCard : Claim7 := { stood := { row := serveNoneUptoRow, standIns := [], harness := (true, "24abf8f72ffa5a77544ecc0debf5cd847b87bed06a97dafa9f6a7438a02d650c"), looks := true }, kinds := [], alts := [], laidByText := true, laidKinds := [.sentinel, .sentinel, .data, .data, .data, .pinned, .data], laidTests := true, laidLooks := .later }
def ServeNoneUptoCardSaid : Prop := Claim7.holds Tryz.pinned (.plain (OpenSpec.upto serveNoneSpec)) serveNoneUptoCard
end Rows
end Go.Proofs.YtnaobokbalfhkaaGreatDoor
