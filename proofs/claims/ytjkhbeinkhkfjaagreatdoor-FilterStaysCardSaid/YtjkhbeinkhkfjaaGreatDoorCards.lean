/-
  DERIVED. GIVEN WITH THE SEED: THE CARDS: each row of YtjkhbeinkhkfjaaGreatDoorRows.lean that lists a variable, with what it lists TIED to the program's text (the seventh form; the later family's looks); each row that meets fmt, with fmt's text TOLD by the authors' own Lean function (tested against real Go, not proved from fmt's source: count such statements apart). THE CARD IS WHAT COUNTS. Prove the row's statement (the work); the ties are given (YtjkhbeinkhkfjaaGreatDoorTie.lean); close each card by the builder's one call (the guide's Derived/Test/ToyasCard.lean, 'card_holds'). Laid BY PROGRAM, IN A SANDBOX (cutbox-door.mjs). By AI agents, Wed Nov 11 2026. No macro, syntax, notation, axiom, sorry.
-/
import Derived.Test.YtjkhbeinkhkfjaaGreatDoorRows
import GoSem.ClaimSeven
namespace Go.Proofs.YtjkhbeinkhkfjaaGreatDoor
namespace Rows

/-- THE TIED CARD OF 'parallaxlaw14.FilterStays'. -/
def filterStaysCard : Claim7 := { stood := { row := filterStaysRow, standIns := [], harness := (true, "7af1beaafda259c2ae27f2aff801a94163b831d3d521d028fc16d36d31a24dbd"), looks := false }, kinds := [], alts := [], laidByText := true, laidKinds := [.data, .pinned], laidTests := true, laidLooks := .later }
def FilterStaysCardSaid : Prop := Claim7.holds Tryz.pinned (.plain (OpenSpec.ofChange filterStaysSpec)) filterStaysCard

/-- THE SECOND FORM's CARD OF 'parallaxlaw14.FilterStays'. -/
def filterStaysUptoCard : Claim7 := { stood := { row := filterStaysUptoRow, standIns := [], harness := (true, "7af1beaafda259c2ae27f2aff801a94163b831d3d521d028fc16d36d31a24dbd"), looks := false }, kinds := [], alts := [], laidByText := true, laidKinds := [.data, .pinned], laidTests := true, laidLooks := .later }
def FilterStaysUptoCardSaid : Prop := Claim7.holds Tryz.pinned (.plain (OpenSpec.upto filterStaysSpec)) filterStaysUptoCard
end Rows
end Go.Proofs.YtjkhbeinkhkfjaaGreatDoor
