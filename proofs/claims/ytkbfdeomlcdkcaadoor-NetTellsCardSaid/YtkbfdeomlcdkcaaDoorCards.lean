/-
  DERIVED. GIVEN WITH THE SEED: THE CARDS: each row of YtkbfdeomlcdkcaaDoorRows.lean that lists a variable, with what it lists TIED to the program's text (the seventh form; the later family's looks); each row that meets fmt, with fmt's text TOLD by the authors' own Lean function (tested against real Go, not proved from fmt's source: count such statements apart). THE CARD IS WHAT COUNTS. Prove the row's statement (the work); the ties are given (YtkbfdeomlcdkcaaDoorTie.lean); close each card by the builder's one call (the guide's Derived/Test/ToyasCard.lean, 'card_holds'). Laid BY PROGRAM, IN A SANDBOX (cutbox-door.mjs). By AI agents, Wed Nov 11 2026. No macro, syntax, notation, axiom, sorry.
-/
import Derived.Test.YtkbfdeomlcdkcaaDoorRows
import GoSem.ClaimSeven
namespace Go.Proofs.YtkbfdeomlcdkcaaDoor
namespace Rows

/-- THE TIED CARD OF 'parallaxlaw23.NetTells'. -/
def netTellsCard : Claim7 := { stood := { row := netTellsRow, standIns := [], harness := (true, "8fb4bc0f5a6b88617075969be14d573fb5c7af31c60a01439bbcd4f6e82179d6"), looks := false }, kinds := [], alts := [], laidByText := true, laidKinds := [.data, .data, .data, .data, .pinned], laidTests := true, laidLooks := .later }
def NetTellsCardSaid : Prop := Claim7.holds Tryd.pinned (.plain (OpenSpec.ofChange netTellsSpec)) netTellsCard

/-- THE TIED CARD OF 'parallaxlaw23.NetMasks'. -/
def netMasksCard : Claim7 := { stood := { row := netMasksRow, standIns := [], harness := (true, "8fb4bc0f5a6b88617075969be14d573fb5c7af31c60a01439bbcd4f6e82179d6"), looks := false }, kinds := [], alts := [], laidByText := true, laidKinds := [.data, .data, .data, .data, .pinned], laidTests := true, laidLooks := .later }
def NetMasksCardSaid : Prop := Claim7.holds Tryd.pinned (.plain (OpenSpec.ofChange netMasksSpec)) netMasksCard

/-- THE TIED CARD OF 'parallaxlaw23.NetWrites'. -/
def netWritesCard : Claim7 := { stood := { row := netWritesRow, standIns := [], harness := (true, "8fb4bc0f5a6b88617075969be14d573fb5c7af31c60a01439bbcd4f6e82179d6"), looks := false }, kinds := [], alts := [], laidByText := true, laidKinds := [.data, .data, .data, .data, .pinned], laidTests := true, laidLooks := .later }
def NetWritesCardSaid : Prop := Claim7.holds Tryd.pinned (.plain (OpenSpec.ofChange netWritesSpec)) netWritesCard

/-- THE SECOND FORM's CARD OF 'parallaxlaw23.NetTells'. -/
def netTellsUptoCard : Claim7 := { stood := { row := netTellsUptoRow, standIns := [], harness := (true, "8fb4bc0f5a6b88617075969be14d573fb5c7af31c60a01439bbcd4f6e82179d6"), looks := false }, kinds := [], alts := [], laidByText := true, laidKinds := [.data, .data, .data, .data, .pinned], laidTests := true, laidLooks := .later }
def NetTellsUptoCardSaid : Prop := Claim7.holds Tryd.pinned (.plain (OpenSpec.upto netTellsSpec)) netTellsUptoCard

/-- THE SECOND FORM's CARD OF 'parallaxlaw23.NetMasks'. -/
def netMasksUptoCard : Claim7 := { stood := { row := netMasksUptoRow, standIns := [], harness := (true, "8fb4bc0f5a6b88617075969be14d573fb5c7af31c60a01439bbcd4f6e82179d6"), looks := false }, kinds := [], alts := [], laidByText := true, laidKinds := [.data, .data, .data, .data, .pinned], laidTests := true, laidLooks := .later }
def NetMasksUptoCardSaid : Prop := Claim7.holds Tryd.pinned (.plain (OpenSpec.upto netMasksSpec)) netMasksUptoCard

/-- THE SECOND FORM's CARD OF 'parallaxlaw23.NetWrites'. -/
def netWritesUptoCard : Claim7 := { stood := { row := netWritesUptoRow, standIns := [], harness := (true, "8fb4bc0f5a6b88617075969be14d573fb5c7af31c60a01439bbcd4f6e82179d6"), looks := false }, kinds := [], alts := [], laidByText := true, laidKinds := [.data, .data, .data, .data, .pinned], laidTests := true, laidLooks := .later }
def NetWritesUptoCardSaid : Prop := Claim7.holds Tryd.pinned (.plain (OpenSpec.upto netWritesSpec)) netWritesUptoCard
end Rows
end Go.Proofs.YtkbfdeomlcdkcaaDoor
