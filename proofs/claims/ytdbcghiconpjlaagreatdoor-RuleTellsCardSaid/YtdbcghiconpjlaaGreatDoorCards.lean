/-
  DERIVED. GIVEN WITH THE SEED: THE CARDS: each row of YtdbcghiconpjlaaGreatDoorRows.lean that lists a variable, with what it lists TIED to the program's text (the seventh form; the later family's looks); each row that meets fmt, with fmt's text TOLD by the authors' own Lean function (tested against real Go, not proved from fmt's source: count such statements apart). THE CARD IS WHAT COUNTS. Prove the row's statement (the work); the ties are given (YtdbcghiconpjlaaGreatDoorTie.lean); close each card by the builder's one call (the guide's Derived/Test/ToyasCard.lean, 'card_holds'). Laid BY PROGRAM, IN A SANDBOX (cutbox-door.mjs). By AI agents, Wed Nov 11 2026. No macro, syntax, notation, axiom, sorry.
-/
import Derived.Test.YtdbcghiconpjlaaGreatDoorRows
import GoSem.ClaimSeven
namespace Go.Proofs.YtdbcghiconpjlaaGreatDoor
namespace Rows

/-- THE TIED CARD OF 'parallaxlaw25.RuleTells'. -/
def ruleTellsCard : Claim7 := { stood := { row := ruleTellsRow, standIns := [], harness := (true, "93a12e571f354f9dde9f03fa3f153317e162ef0ab758abc8742d307cba2457bc"), looks := false }, kinds := [], alts := [], laidByText := true, laidKinds := [.data, .data, .data, .data, .listed, .data, .pinned], laidTests := true, laidLooks := .later }
def RuleTellsCardSaid : Prop := Claim7.holds Tryz.pinned (.plain (OpenSpec.ofChange ruleTellsSpec)) ruleTellsCard

/-- THE TIED CARD OF 'parallaxlaw25.RuleReads'. -/
def ruleReadsCard : Claim7 := { stood := { row := ruleReadsRow, standIns := [], harness := (true, "93a12e571f354f9dde9f03fa3f153317e162ef0ab758abc8742d307cba2457bc"), looks := false }, kinds := [], alts := [], laidByText := true, laidKinds := [.data, .data, .data, .data, .listed, .data, .pinned], laidTests := true, laidLooks := .later }
def RuleReadsCardSaid : Prop := Claim7.holds Tryz.pinned (.plain (OpenSpec.ofChange ruleReadsSpec)) ruleReadsCard

/-- THE TIED CARD OF 'parallaxlaw25.RuleKinds'. -/
def ruleKindsCard : Claim7 := { stood := { row := ruleKindsRow, standIns := [], harness := (true, "93a12e571f354f9dde9f03fa3f153317e162ef0ab758abc8742d307cba2457bc"), looks := false }, kinds := [], alts := [], laidByText := true, laidKinds := [.data, .data, .data, .data, .listed, .data, .pinned], laidTests := true, laidLooks := .later }
def RuleKindsCardSaid : Prop := Claim7.holds Tryz.pinned (.plain (OpenSpec.ofChange ruleKindsSpec)) ruleKindsCard

/-- THE TIED CARD OF 'parallaxlaw25.RuleSizes'. -/
def ruleSizesCard : Claim7 := { stood := { row := ruleSizesRow, standIns := [], harness := (true, "93a12e571f354f9dde9f03fa3f153317e162ef0ab758abc8742d307cba2457bc"), looks := false }, kinds := [], alts := [], laidByText := true, laidKinds := [.data, .data, .data, .data, .listed, .data, .pinned], laidTests := true, laidLooks := .later }
def RuleSizesCardSaid : Prop := Claim7.holds Tryz.pinned (.plain (OpenSpec.ofChange ruleSizesSpec)) ruleSizesCard

/-- THE SECOND FORM's CARD OF 'parallaxlaw25.RuleTells'. -/
def ruleTellsUptoCard : Claim7 := { stood := { row := ruleTellsUptoRow, standIns := [], harness := (true, "93a12e571f354f9dde9f03fa3f153317e162ef0ab758abc8742d307cba2457bc"), looks := false }, kinds := [], alts := [], laidByText := true, laidKinds := [.data, .data, .data, .data, .listed, .data, .pinned], laidTests := true, laidLooks := .later }
def RuleTellsUptoCardSaid : Prop := Claim7.holds Tryz.pinned (.plain (OpenSpec.upto ruleTellsSpec)) ruleTellsUptoCard

/-- THE SECOND FORM's CARD OF 'parallaxlaw25.RuleReads'. -/
def ruleReadsUptoCard : Claim7 := { stood := { row := ruleReadsUptoRow, standIns := [], harness := (true, "93a12e571f354f9dde9f03fa3f153317e162ef0ab758abc8742d307cba2457bc"), looks := false }, kinds := [], alts := [], laidByText := true, laidKinds := [.data, .data, .data, .data, .listed, .data, .pinned], laidTests := true, laidLooks := .later }
def RuleReadsUptoCardSaid : Prop := Claim7.holds Tryz.pinned (.plain (OpenSpec.upto ruleReadsSpec)) ruleReadsUptoCard

/-- THE SECOND FORM's CARD OF 'parallaxlaw25.RuleKinds'. -/
def ruleKindsUptoCard : Claim7 := { stood := { row := ruleKindsUptoRow, standIns := [], harness := (true, "93a12e571f354f9dde9f03fa3f153317e162ef0ab758abc8742d307cba2457bc"), looks := false }, kinds := [], alts := [], laidByText := true, laidKinds := [.data, .data, .data, .data, .listed, .data, .pinned], laidTests := true, laidLooks := .later }
def RuleKindsUptoCardSaid : Prop := Claim7.holds Tryz.pinned (.plain (OpenSpec.upto ruleKindsSpec)) ruleKindsUptoCard

/-- THE SECOND FORM's CARD OF 'parallaxlaw25.RuleSizes'. -/
def ruleSizesUptoCard : Claim7 := { stood := { row := ruleSizesUptoRow, standIns := [], harness := (true, "93a12e571f354f9dde9f03fa3f153317e162ef0ab758abc8742d307cba2457bc"), looks := false }, kinds := [], alts := [], laidByText := true, laidKinds := [.data, .data, .data, .data, .listed, .data, .pinned], laidTests := true, laidLooks := .later }
def RuleSizesUptoCardSaid : Prop := Claim7.holds Tryz.pinned (.plain (OpenSpec.upto ruleSizesSpec)) ruleSizesUptoCard
end Rows
end Go.Proofs.YtdbcghiconpjlaaGreatDoor
