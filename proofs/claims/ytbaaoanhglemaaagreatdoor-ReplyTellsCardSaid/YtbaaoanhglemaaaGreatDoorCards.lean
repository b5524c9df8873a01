/-
  DERIVED. GIVEN WITH THE SEED: THE CARDS: each row of YtbaaoanhglemaaaGreatDoorRows.lean that lists a variable, with what it lists TIED to the program's text (the seventh form; the later family's looks); each row that meets fmt, with fmt's text TOLD by the authors' own Lean function (tested against real Go, not proved from fmt's source: count such statements apart). THE CARD IS WHAT COUNTS. Prove the row's statement (the work); the ties are given (YtbaaoanhglemaaaGreatDoorTie.lean); close each card by the builder's one call (the guide's Derived/Test/ToyasCard.lean, 'card_holds'). Laid BY PROGRAM, IN A SANDBOX (cutbox-door.mjs). By AI agents, Wed Nov 11 2026. No macro, syntax, notation, axiom, sorry.
-/
import Derived.Test.YtbaaoanhglemaaaGreatDoorRows
import GoSem.ClaimSeven
namespace Go.Proofs.YtbaaoanhglemaaaGreatDoor
namespace Rows

/-- THE TIED CARD OF 'parallaxlaw27.ReplyTells'. -/
def replyTellsCard : Claim7 := { stood := { row := replyTellsRow, standIns := [], harness := (true, "6783db4ca1b46842e1c575afe9042ec0e7448d7246048fd4c3a9bedb4ac1a4c3"), looks := false }, kinds := [], alts := [], laidByText := true, laidKinds := [.data, .data, .data, .data, .listed, .data, .pinned], laidTests := true, laidLooks := .later }
def ReplyTellsCardSaid : Prop := Claim7.holds Tryz.pinned (.plain (OpenSpec.ofChange replyTellsSpec)) replyTellsCard

/-- THE TIED CARD OF 'parallaxlaw27.ReplyFrames'. -/
def replyFramesCard : Claim7 := { stood := { row := replyFramesRow, standIns := [], harness := (true, "6783db4ca1b46842e1c575afe9042ec0e7448d7246048fd4c3a9bedb4ac1a4c3"), looks := false }, kinds := [], alts := [], laidByText := true, laidKinds := [.data, .data, .data, .data, .listed, .data, .pinned], laidTests := true, laidLooks := .later }
def ReplyFramesCardSaid : Prop := Claim7.holds Tryz.pinned (.plain (OpenSpec.ofChange replyFramesSpec)) replyFramesCard

/-- THE TIED CARD OF 'parallaxlaw27.ReplyRelays'. -/
def replyRelaysCard : Claim7 := { stood := { row := replyRelaysRow, standIns := [], harness := (true, "6783db4ca1b46842e1c575afe9042ec0e7448d7246048fd4c3a9bedb4ac1a4c3"), looks := false }, kinds := [], alts := [], laidByText := true, laidKinds := [.data, .data, .data, .data, .listed, .data, .pinned], laidTests := true, laidLooks := .later }
def ReplyRelaysCardSaid : Prop := Claim7.holds Tryz.pinned (.plain (OpenSpec.ofChange replyRelaysSpec)) replyRelaysCard

/-- THE SECOND FORM's CARD OF 'parallaxlaw27.ReplyTells'. -/
def replyTellsUptoCard : Claim7 := { stood := { row := replyTellsUptoRow, standIns := [], harness := (true, "6783db4ca1b46842e1c575afe9042ec0e7448d7246048fd4c3a9bedb4ac1a4c3"), looks := false }, kinds := [], alts := [], laidByText := true, laidKinds := [.data, .data, .data, .data, .listed, .data, .pinned], laidTests := true, laidLooks := .later }
def ReplyTellsUptoCardSaid : Prop := Claim7.holds Tryz.pinned (.plain (OpenSpec.upto replyTellsSpec)) replyTellsUptoCard

/-- THE SECOND FORM's CARD OF 'parallaxlaw27.ReplyFrames'. -/
def replyFramesUptoCard : Claim7 := { stood := { row := replyFramesUptoRow, standIns := [], harness := (true, "6783db4ca1b46842e1c575afe9042ec0e7448d7246048fd4c3a9bedb4ac1a4c3"), looks := false }, kinds := [], alts := [], laidByText := true, laidKinds := [.data, .data, .data, .data, .listed, .data, .pinned], laidTests := true, laidLooks := .later }
def ReplyFramesUptoCardSaid : Prop := Claim7.holds Tryz.pinned (.plain (OpenSpec.upto replyFramesSpec)) replyFramesUptoCard

/-- THE SECOND FORM's CARD OF 'parallaxlaw27.ReplyRelays'. -/
def replyRelaysUptoCard : Claim7 := { stood := { row := replyRelaysUptoRow, standIns := [], harness := (true, "6783db4ca1b46842e1c575afe9042ec0e7448d7246048fd4c3a9bedb4ac1a4c3"), looks := false }, kinds := [], alts := [], laidByText := true, laidKinds := [.data, .data, .data, .data, .listed, .data, .pinned], laidTests := true, laidLooks := .later }
def ReplyRelaysUptoCardSaid : Prop := Claim7.holds Tryz.pinned (.plain (OpenSpec.upto replyRelaysSpec)) replyRelaysUptoCard
end Rows
end Go.Proofs.YtbaaoanhglemaaaGreatDoor
