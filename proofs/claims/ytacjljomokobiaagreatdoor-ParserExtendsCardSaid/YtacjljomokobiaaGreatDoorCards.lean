/-
  DERIVED. GIVEN WITH THE SEED: THE CARDS: each row of YtacjljomokobiaaGreatDoorRows.lean that lists a variable, with what it lists TIED to the program's text (the seventh form; the later family's looks); each row that meets fmt, with fmt's text TOLD by the authors' own Lean function (tested against real Go, not proved from fmt's source: count such statements apart). THE CARD IS WHAT COUNTS. Prove the row's statement (the work); the ties are given (YtacjljomokobiaaGreatDoorTie.lean); close each card by the builder's one call (the guide's Derived/Test/ToyasCard.lean, 'card_holds'). Laid BY PROGRAM, IN A SANDBOX (cutbox-door.mjs). By AI agents, Wed Nov 11 2026. No macro, syntax, notation, axiom, sorry.
-/
import Derived.Test.YtacjljomokobiaaGreatDoorRows
import GoSem.ClaimSeven
namespace Go.Proofs.YtacjljomokobiaaGreatDoor
namespace Rows

/-- THE TIED CARD OF 'parallaxlaw13.ParserTells'. -/
def parserTellsCard : Claim7 := { stood := { row := parserTellsRow, standIns := [], harness := (true, "cb00f83f1fcb4089b85937239bb1211f85b64363ecfd301f017be4d728c422f3"), looks := false }, kinds := [], alts := [], laidByText := true, laidKinds := [.data, .pinned], laidTests := true, laidLooks := .later }
def ParserTellsCardSaid : Prop := Claim7.holds Tryz.pinned (.plain (OpenSpec.ofChange parserTellsSpec)) parserTellsCard

/-- THE TIED CARD OF 'parallaxlaw13.ParserReads'. -/
def parserReadsCard : Claim7 := { stood := { row := parserReadsRow, standIns := [], harness := (true, "cb00f83f1fcb4089b85937239bb1211f85b64363ecfd301f017be4d728c422f3"), looks := false }, kinds := [], alts := [], laidByText := true, laidKinds := [.data, .pinned], laidTests := true, laidLooks := .later }
def ParserReadsCardSaid : Prop := Claim7.holds Tryz.pinned (.plain (OpenSpec.ofChange parserReadsSpec)) parserReadsCard

/-- THE TIED CARD OF 'parallaxlaw13.ParserForms'. -/
def parserFormsCard : Claim7 := { stood := { row := parserFormsRow, standIns := [], harness := (true, "cb00f83f1fcb4089b85937239bb1211f85b64363ecfd301f017be4d728c422f3"), looks := false }, kinds := [], alts := [], laidByText := true, laidKinds := [.data, .pinned], laidTests := true, laidLooks := .later }
def ParserFormsCardSaid : Prop := Claim7.holds Tryz.pinned (.plain (OpenSpec.ofChange parserFormsSpec)) parserFormsCard

/-- THE TIED CARD OF 'parallaxlaw13.ParserExtends'. -/
def parserExtendsCard : Claim7 := { stood := { row := parserExtendsRow, standIns := [], harness := (true, "cb00f83f1fcb4089b85937239bb1211f85b64363ecfd301f017be4d728c422f3"), looks := false }, kinds := [], alts := [], laidByText := true, laidKinds := [.data, .pinned], laidTests := true, laidLooks := .later }
def ParserExtendsCardSaid : Prop := Claim7.holds Tryz.pinned (.plain (OpenSpec.ofChange parserExtendsSpec)) parserExtendsCard

/-- THE TIED CARD OF 'parallaxlaw13.ParserHeads'. -/
def parserHeadsCard : Claim7 := { stood := { row := parserHeadsRow, standIns := [], harness := (true, "cb00f83f1fcb4089b85937239bb1211f85b64363ecfd301f017be4d728c422f3"), looks := false }, kinds := [], alts := [], laidByText := true, laidKinds := [.data, .pinned], laidTests := true, laidLooks := .later }
def ParserHeadsCardSaid : Prop := Claim7.holds Tryz.pinned (.plain (OpenSpec.ofChange parserHeadsSpec)) parserHeadsCard

/-- THE TIED CARD OF 'parallaxlaw13.ParserTargets'. -/
def parserTargetsCard : Claim7 := { stood := { row := parserTargetsRow, standIns := [], harness := (true, "cb00f83f1fcb4089b85937239bb1211f85b64363ecfd301f017be4d728c422f3"), looks := false }, kinds := [], alts := [], laidByText := true, laidKinds := [.data, .pinned], laidTests := true, laidLooks := .later }
def ParserTargetsCardSaid : Prop := Claim7.holds Tryz.pinned (.plain (OpenSpec.ofChange parserTargetsSpec)) parserTargetsCard

/-- THE TIED CARD OF 'parallaxlaw13.ParserBodies'. -/
def parserBodiesCard : Claim7 := { stood := { row := parserBodiesRow, standIns := [], harness := (true, "cb00f83f1fcb4089b85937239bb1211f85b64363ecfd301f017be4d728c422f3"), looks := false }, kinds := [], alts := [], laidByText := true, laidKinds := [.data, .pinned], laidTests := true, laidLooks := .later }
def ParserBodiesCardSaid : Prop := Claim7.holds Tryz.pinned (.plain (OpenSpec.ofChange parserBodiesSpec)) parserBodiesCard

/-- THE TIED CARD OF 'parallaxlaw13.ParserLong'. -/
def parserLongCard : Claim7 := { stood := { row := parserLongRow, standIns := [], harness := (true, "cb00f83f1fcb4089b85937239bb1211f85b64363ecfd301f017be4d728c422f3"), looks := false }, kinds := [], alts := [], laidByText := true, laidKinds := [.data, .pinned], laidTests := true, laidLooks := .later }
def ParserLongCardSaid : Prop := Claim7.holds Tryz.pinned (.plain (OpenSpec.ofChange parserLongSpec)) parserLongCard

/-- THE TIED CARD OF 'parallaxlaw13.ParserWaits'. -/
def parserWaitsCard : Claim7 := { stood := { row := parserWaitsRow, standIns := [], harness := (true, "cb00f83f1fcb4089b85937239bb1211f85b64363ecfd301f017be4d728c422f3"), looks := false }, kinds := [], alts := [], laidByText := true, laidKinds := [.data, .pinned], laidTests := true, laidLooks := .later }
def ParserWaitsCardSaid : Prop := Claim7.holds Tryz.pinned (.plain (OpenSpec.ofChange parserWaitsSpec)) parserWaitsCard

/-- THE TIED CARD OF 'parallaxlaw13.ParserTrailers'. -/
def parserTrailersCard : Claim7 := { stood := { row := parserTrailersRow, standIns := [], harness := (true, "cb00f83f1fcb4089b85937239bb1211f85b64363ecfd301f017be4d728c422f3"), looks := false }, kinds := [], alts := [], laidByText := true, laidKinds := [.data, .pinned], laidTests := true, laidLooks := .later }
def ParserTrailersCardSaid : Prop := Claim7.holds Tryz.pinned (.plain (OpenSpec.ofChange parserTrailersSpec)) parserTrailersCard

/-- THE TIED CARD OF 'parallaxlaw13.ParserFolds'. -/
def parserFoldsCard : Claim7 := { stood := { row := parserFoldsRow, standIns := [], harness := (true, "cb00f83f1fcb4089b85937239bb1211f85b64363ecfd301f017be4d728c422f3"), looks := false }, kinds := [], alts := [], laidByText := true, laidKinds := [.data, .pinned], laidTests := true, laidLooks := .later }
def ParserFoldsCardSaid : Prop := Claim7.holds Tryz.pinned (.plain (OpenSpec.ofChange parserFoldsSpec)) parserFoldsCard

/-- THE TIED CARD OF 'parallaxlaw13.ParserEmpties'. -/
def parserEmptiesCard : Claim7 := { stood := { row := parserEmptiesRow, standIns := [], harness := (true, "cb00f83f1fcb4089b85937239bb1211f85b64363ecfd301f017be4d728c422f3"), looks := false }, kinds := [], alts := [], laidByText := true, laidKinds := [.data, .pinned], laidTests := true, laidLooks := .later }
def ParserEmptiesCardSaid : Prop := Claim7.holds Tryz.pinned (.plain (OpenSpec.ofChange parserEmptiesSpec)) parserEmptiesCard

/-- THE SECOND FORM's CARD OF 'parallaxlaw13.ParserTells'. -/
def parserTellsUptoCard : Claim7 := { stood := { row := parserTellsUptoRow, standIns := [], harness := (true, "cb00f83f1fcb4089b85937239bb1211f85b64363ecfd301f017be4d728c422f3"), looks := false }, kinds := [], alts := [], laidByText := true, laidKinds := [.data, .pinned], laidTests := true, laidLooks := .later }
def ParserTellsUptoCardSaid : Prop := Claim7.holds Tryz.pinned (.plain (OpenSpec.upto parserTellsSpec)) parserTellsUptoCard

/-- THE SECOND FORM's CARD OF 'parallaxlaw13.ParserReads'. -/
def parserReadsUptoCard : Claim7 := { stood := { row := parserReadsUptoRow, standIns := [], harness := (true, "cb00f83f1fcb4089b85937239bb1211f85b64363ecfd301f017be4d728c422f3"), looks := false }, kinds := [], alts := [], laidByText := true, laidKinds := [.data, .pinned], laidTests := true, laidLooks := .later }
def ParserReadsUptoCardSaid : Prop := Claim7.holds Tryz.pinned (.plain (OpenSpec.upto parserReadsSpec)) parserReadsUptoCard

/-- THE SECOND FORM's CARD OF 'parallaxlaw13.ParserForms'. -/
def parserFormsUptoCard : Claim7 := { stood := { row := parserFormsUptoRow, standIns := [], harness := (true, "cb00f83f1fcb4089b85937239bb1211f85b64363ecfd301f017be4d728c422f3"), looks := false }, kinds := [], alts := [], laidByText := true, laidKinds := [.data, .pinned], laidTests := true, laidLooks := .later }
def ParserFormsUptoCardSaid : Prop := Claim7.holds Tryz.pinned (.plain (OpenSpec.upto parserFormsSpec)) parserFormsUptoCard

/-- THE SECOND FORM's CARD OF 'parallaxlaw13.ParserExtends'. -/
def parserExtendsUptoCard : Claim7 := { stood := { row := parserExtendsUptoRow, standIns := [], harness := (true, "cb00f83f1fcb4089b85937239bb1211f85b64363ecfd301f017be4d728c422f3"), looks := false }, kinds := [], alts := [], laidByText := true, laidKinds := [.data, .pinned], laidTests := true, laidLooks := .later }
def ParserExtendsUptoCardSaid : Prop := Claim7.holds Tryz.pinned (.plain (OpenSpec.upto parserExtendsSpec)) parserExtendsUptoCard

/-- THE SECOND FORM's CARD OF 'parallaxlaw13.ParserHeads'. -/
def parserHeadsUptoCard : Claim7 := { stood := { row := parserHeadsUptoRow, standIns := [], harness := (true, "cb00f83f1fcb4089b85937239bb1211f85b64363ecfd301f017be4d728c422f3"), looks := false }, kinds := [], alts := [], laidByText := true, laidKinds := [.data, .pinned], laidTests := true, laidLooks := .later }
def ParserHeadsUptoCardSaid : Prop := Claim7.holds Tryz.pinned (.plain (OpenSpec.upto parserHeadsSpec)) parserHeadsUptoCard

/-- THE SECOND FORM's CARD OF 'parallaxlaw13.ParserTargets'. -/
def parserTargetsUptoCard : Claim7 := { stood := { row := parserTargetsUptoRow, standIns := [], harness := (true, "cb00f83f1fcb4089b85937239bb1211f85b64363ecfd301f017be4d728c422f3"), looks := false }, kinds := [], alts := [], laidByText := true, laidKinds := [.data, .pinned], laidTests := true, laidLooks := .later }
def ParserTargetsUptoCardSaid : Prop := Claim7.holds Tryz.pinned (.plain (OpenSpec.upto parserTargetsSpec)) parserTargetsUptoCard

/-- THE SECOND FORM's CARD OF 'parallaxlaw13.ParserBodies'. -/
def parserBodiesUptoCard : Claim7 := { stood := { row := parserBodiesUptoRow, standIns := [], harness := (true, "cb00f83f1fcb4089b85937239bb1211f85b64363ecfd301f017be4d728c422f3"), looks := false }, kinds := [], alts := [], laidByText := true, laidKinds := [.data, .pinned], laidTests := true, laidLooks := .later }
def ParserBodiesUptoCardSaid : Prop := Claim7.holds Tryz.pinned (.plain (OpenSpec.upto parserBodiesSpec)) parserBodiesUptoCard

/-- THE SECOND FORM's CARD OF 'parallaxlaw13.ParserLong'. -/
def parserLongUptoCard : Claim7 := { stood := { row := parserLongUptoRow, standIns := [], harness := (true, "cb00f83f1fcb4089b85937239bb1211f85b64363ecfd301f017be4d728c422f3"), looks := false }, kinds := [], alts := [], laidByText := true, laidKinds := [.data, .pinned], laidTests := true, laidLooks := .later }
def ParserLongUptoCardSaid : Prop := Claim7.holds Tryz.pinned (.plain (OpenSpec.upto parserLongSpec)) parserLongUptoCard

/-- THE SECOND FORM's CARD OF 'parallaxlaw13.ParserWaits'. -/
def parserWaitsUptoCard : Claim7 := { stood := { row := parserWaitsUptoRow, standIns := [], harness := (true, "cb00f83f1fcb4089b85937239bb1211f85b64363ecfd301f017be4d728c422f3"), looks := false }, kinds := [], alts := [], laidByText := true, laidKinds := [.data, .pinned], laidTests := true, laidLooks := .later }
def ParserWaitsUptoCardSaid : Prop := Claim7.holds Tryz.pinned (.plain (OpenSpec.upto parserWaitsSpec)) parserWaitsUptoCard

/-- THE SECOND FORM's CARD OF 'parallaxlaw13.ParserTrailers'. -/
def parserTrailersUptoCard : Claim7 := { stood := { row := parserTrailersUptoRow, standIns := [], harness := (true, "cb00f83f1fcb4089b85937239bb1211f85b64363ecfd301f017be4d728c422f3"), looks := false }, kinds := [], alts := [], laidByText := true, laidKinds := [.data, .pinned], laidTests := true, laidLooks := .later }
def ParserTrailersUptoCardSaid : Prop := Claim7.holds Tryz.pinned (.plain (OpenSpec.upto parserTrailersSpec)) parserTrailersUptoCard

/-- THE SECOND FORM's CARD OF 'parallaxlaw13.ParserFolds'. -/
def parserFoldsUptoCard : Claim7 := { stood := { row := parserFoldsUptoRow, standIns := [], harness := (true, "cb00f83f1fcb4089b85937239bb1211f85b64363ecfd301f017be4d728c422f3"), looks := false }, kinds := [], alts := [], laidByText := true, laidKinds := [.data, .pinned], laidTests := true, laidLooks := .later }
def ParserFoldsUptoCardSaid : Prop := Claim7.holds Tryz.pinned (.plain (OpenSpec.upto parserFoldsSpec)) parserFoldsUptoCard

/-- THE SECOND FORM's CARD OF 'parallaxlaw13.ParserEmpties'. -/
def parserEmptiesUptoCard : Claim7 := { stood := { row := parserEmptiesUptoRow, standIns := [], harness := (true, "cb00f83f1fcb4089b85937239bb1211f85b64363ecfd301f017be4d728c422f3"), looks := false }, kinds := [], alts := [], laidByText := true, laidKinds := [.data, .pinned], laidTests := true, laidLooks := .later }
def ParserEmptiesUptoCardSaid : Prop := Claim7.holds Tryz.pinned (.plain (OpenSpec.upto parserEmptiesSpec)) parserEmptiesUptoCard
end Rows
end Go.Proofs.YtacjljomokobiaaGreatDoor
