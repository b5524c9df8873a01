/-
  NARROWER THAN 'FOR EVERY INPUT', by the rows' own cells (each row's printed sentence says how): ParserTells: laid · ParserReads: laid · ParserForms: laid · ParserExtends: laid · ParserHeads: laid · ParserTargets: laid · ParserBodies: laid · ParserLong: laid · ParserWaits: laid · ParserTrailers: laid · ParserFolds: laid · ParserEmpties: laid.
  DERIVED. THE GIVEN ROWS OF THIS SEAT. 12 by the template 'for every input the law returns true; each argument reads behind the call as it read before'; 0 by the template 'total and deterministic' (their statements: YtacjljomokobiaaGreatDoorTotals.lean).
  GIVEN WITH THE SEED: the statements are not yours to turn. If you find one false, say at which input.
  Laid BY PROGRAM, IN A SANDBOX (cutbox-rows.mjs): the forced cells as the released guide's own fill.sh prints them over the translation 0134c2114803d09c… (all of the seat's roots in one cut). By AI agents, Wed Nov 11 2026. No macro, syntax, notation, axiom, sorry.
-/
import Derived.Test.YtacjljomokobiaaGreatDoorChecked
import GoSem.PinnedTables
import GoSem.Claim
import GoSem.ClaimJoined
import GoSem.ClaimMapViews
import Derived.JoinedTies
import Derived.KernelRfl
namespace Go.Proofs.YtacjljomokobiaaGreatDoor
/- THE CELL 'sum', in the pinned program and in every row, IS THE sha256 OF THE DUMP (.gsa) THAT YtacjljomokobiaaGreatDoorProg.lean LOADS. Nothing in Lean hashes anything: it is a label: what it is worth is what the hold of that sum in a sandbox is worth. -/
noncomputable def Tryz.pinned : Pinned := { name := "ytacjljomokobiaagreatdoor", sum := "0134c2114803d09cd13f1c1e2e4360a436d18e2785e48d0dc9bfdba0f13b2964", checked := Tryz.checked }
namespace Rows
def none {H : Type} : Left H := { results := [], args := [] }

/- WHAT THE LISTED PACKAGE-LEVEL VARIABLES READ AS WHEN THE CALL BEGINS. Each datum BY PROGRAM (the guide's laid-datum.mjs) off the statement by which the dump's own 'gosem.cut.vars' lays the variable. In a bare row this is a premise. The card (YtacjljomokobiaaGreatDoorCards.lean) ties it to the program's text. -/
def laid_unicode_utf8_acceptRanges {H : Type} : DataW H := .agg [.agg [.lit (.int .u8 128), .lit (.int .u8 191)], .agg [.lit (.int .u8 160), .lit (.int .u8 191)], .agg [.lit (.int .u8 128), .lit (.int .u8 159)], .agg [.lit (.int .u8 144), .lit (.int .u8 191)], .agg [.lit (.int .u8 128), .lit (.int .u8 143)], .agg [.lit (.int .u8 0), .lit (.int .u8 0)], .agg [.lit (.int .u8 0), .lit (.int .u8 0)], .agg [.lit (.int .u8 0), .lit (.int .u8 0)], .agg [.lit (.int .u8 0), .lit (.int .u8 0)], .agg [.lit (.int .u8 0), .lit (.int .u8 0)], .agg [.lit (.int .u8 0), .lit (.int .u8 0)], .agg [.lit (.int .u8 0), .lit (.int .u8 0)], .agg [.lit (.int .u8 0), .lit (.int .u8 0)], .agg [.lit (.int .u8 0), .lit (.int .u8 0)], .agg [.lit (.int .u8 0), .lit (.int .u8 0)], .agg [.lit (.int .u8 0), .lit (.int .u8 0)]]
/-- One of Go's own tables, pinned by name: the form's constant. -/
def laid_unicode_utf8_first : DataW Unit := Go.Pinned.utf8First

/-- 'parallaxlaw13.ParserTells': WHATEVER THE INPUT: true; the input reads as it did. -/
def parserTellsSpec : ChangeSpec := { name := "parserTells", fn := fun _ => fun
  | [d1, d2, d3, d4, d5, d6, d7, d8] => { results := [.lit (.bool true)], args := [d1, d2, d3, d4, d5, d6, d7, d8] }
  | _ => none }
def parserTellsRow : OpenClaim := { program := "ytacjljomokobiaagreatdoor", sum := "0134c2114803d09cd13f1c1e2e4360a436d18e2785e48d0dc9bfdba0f13b2964", func := "parallax/parallaxlaw13.ParserTells", spec := "parserTells", inPlace := ["internal/bytealg.CountString", "internal/bytealg.IndexByteString", "internal/bytealg.IndexString"], unfollowed := true, recurses := true, named := ["unicode/utf8.first", "unicode/utf8.acceptRanges", "internal/bytealg.MaxLen"], apart := false, laid := [("unicode/utf8.acceptRanges", laid_unicode_utf8_acceptRanges), ("unicode/utf8.first", laid_unicode_utf8_first)] }
def ParserTellsSaid : Prop := parserTellsRow.holds Tryz.pinned (OpenSpec.ofChange parserTellsSpec)

/-- ITS FALSE NEIGHBOUR: 'it returns false'. Refute it at one input. -/
def parserTellsWrong : ChangeSpec := { name := "parserTells", fn := fun _ => fun
  | [d1, d2, d3, d4, d5, d6, d7, d8] => { results := [.lit (.bool false)], args := [d1, d2, d3, d4, d5, d6, d7, d8] }
  | _ => none }
def ParserTellsWrongFalsely : Prop := parserTellsRow.holds Tryz.pinned (OpenSpec.ofChange parserTellsWrong)

/-- 'parallaxlaw13.ParserReads': WHATEVER THE INPUT: true; the input reads as it did. -/
def parserReadsSpec : ChangeSpec := { name := "parserReads", fn := fun _ => fun
  | [d1, d2, d3, d4] => { results := [.lit (.bool true)], args := [d1, d2, d3, d4] }
  | _ => none }
def parserReadsRow : OpenClaim := { program := "ytacjljomokobiaagreatdoor", sum := "0134c2114803d09cd13f1c1e2e4360a436d18e2785e48d0dc9bfdba0f13b2964", func := "parallax/parallaxlaw13.ParserReads", spec := "parserReads", inPlace := ["internal/bytealg.CountString", "internal/bytealg.IndexByteString", "internal/bytealg.IndexString"], unfollowed := true, recurses := true, named := ["unicode/utf8.first", "unicode/utf8.acceptRanges", "internal/bytealg.MaxLen"], apart := false, laid := [("unicode/utf8.acceptRanges", laid_unicode_utf8_acceptRanges), ("unicode/utf8.first", laid_unicode_utf8_first)] }
def ParserReadsSaid : Prop := parserReadsRow.holds Tryz.pinned (OpenSpec.ofChange parserReadsSpec)

/-- ITS FALSE NEIGHBOUR: 'it returns false'. Refute it at one input. -/
def parserReadsWrong : ChangeSpec := { name := "parserReads", fn := fun _ => fun
  | [d1, d2, d3, d4] => { results := [.lit (.bool false)], args := [d1, d2, d3, d4] }
  | _ => none }
def ParserReadsWrongFalsely : Prop := parserReadsRow.holds Tryz.pinned (OpenSpec.ofChange parserReadsWrong)

/-- 'parallaxlaw13.ParserForms': WHATEVER THE INPUT: true; the input reads as it did. -/
def parserFormsSpec : ChangeSpec := { name := "parserForms", fn := fun _ => fun
  | [d1, d2, d3] => { results := [.lit (.bool true)], args := [d1, d2, d3] }
  | _ => none }
def parserFormsRow : OpenClaim := { program := "ytacjljomokobiaagreatdoor", sum := "0134c2114803d09cd13f1c1e2e4360a436d18e2785e48d0dc9bfdba0f13b2964", func := "parallax/parallaxlaw13.ParserForms", spec := "parserForms", inPlace := ["internal/bytealg.CountString", "internal/bytealg.IndexByteString", "internal/bytealg.IndexString"], unfollowed := true, recurses := true, named := ["unicode/utf8.first", "unicode/utf8.acceptRanges", "internal/bytealg.MaxLen"], apart := false, laid := [("unicode/utf8.acceptRanges", laid_unicode_utf8_acceptRanges), ("unicode/utf8.first", laid_unicode_utf8_first)] }
def ParserFormsSaid : Prop := parserFormsRow.holds Tryz.pinned (OpenSpec.ofChange parserFormsSpec)

/-- ITS FALSE NEIGHBOUR: 'it returns false'. Refute it at one input. -/
def parserFormsWrong : ChangeSpec := { name := "parserForms", fn := fun _ => fun
  | [d1, d2, d3] => { results := [.lit (.bool false)], args := [d1, d2, d3] }
  | _ => none }
def ParserFormsWrongFalsely : Prop := parserFormsRow.holds Tryz.pinned (OpenSpec.ofChange parserFormsWrong)

/-- 'parallaxlaw13.ParserExtends': WHATEVER THE INPUT: true; the input reads as it did. -/
def parserExtendsSpec : ChangeSpec := { name := "parserExtends", fn := fun _ => fun
  | [d1, d2, d3] => { results := [.lit (.bool true)], args := [d1, d2, d3] }
  | _ => none }
def parserExtendsRow : OpenClaim := { program := "ytacjljomokobiaagreatdoor", sum := "0134c2114803d09cd13f1c1e2e4360a436d18e2785e48d0dc9bfdba0f13b2964", func := "parallax/parallaxlaw13.ParserExtends", spec := "parserExtends", inPlace := ["internal/bytealg.CountString", "internal/bytealg.IndexByteString", "internal/bytealg.IndexString"], unfollowed := true, recurses := true, named := ["unicode/utf8.first", "unicode/utf8.acceptRanges", "internal/bytealg.MaxLen"], apart := false, laid := [("unicode/utf8.acceptRanges", laid_unicode_utf8_acceptRanges), ("unicode/utf8.first", laid_unicode_utf8_first)] }
def ParserExtendsSaid : Prop := parserExtendsRow.holds Tryz.pinned (OpenSpec.ofChange parserExtendsSpec)

/-- ITS FALSE NEIGHBOUR: 'it returns false'. Refute it at one input. -/
def parserExtendsWrong : ChangeSpec := { name := "parserExtends", fn := fun _ => fun
  | [d1, d2, d3] => { results := [.lit (.bool false)], args := [d1, d2, d3] }
  | _ => none }
def ParserExtendsWrongFalsely : Prop := parserExtendsRow.holds Tryz.pinned (OpenSpec.ofChange parserExtendsWrong)

/-- 'parallaxlaw13.ParserHeads': WHATEVER THE INPUT: true; the input reads as it did. -/
def parserHeadsSpec : ChangeSpec := { name := "parserHeads", fn := fun _ => fun
  | [d1, d2, d3] => { results := [.lit (.bool true)], args := [d1, d2, d3] }
  | _ => none }
def parserHeadsRow : OpenClaim := { program := "ytacjljomokobiaagreatdoor", sum := "0134c2114803d09cd13f1c1e2e4360a436d18e2785e48d0dc9bfdba0f13b2964", func := "parallax/parallaxlaw13.ParserHeads", spec := "parserHeads", inPlace := ["internal/bytealg.CountString", "internal/bytealg.IndexByteString", "internal/bytealg.IndexString"], unfollowed := true, recurses := true, named := ["unicode/utf8.first", "unicode/utf8.acceptRanges", "internal/bytealg.MaxLen"], apart := false, laid := [("unicode/utf8.acceptRanges", laid_unicode_utf8_acceptRanges), ("unicode/utf8.first", laid_unicode_utf8_first)] }
def ParserHeadsSaid : Prop := parserHeadsRow.holds Tryz.pinned (OpenSpec.ofChange parserHeadsSpec)

/-- ITS FALSE NEIGHBOUR: 'it returns false'. Refute it at one input. -/
def parserHeadsWrong : ChangeSpec := { name := "parserHeads", fn := fun _ => fun
  | [d1, d2, d3] => { results := [.lit (.bool false)], args := [d1, d2, d3] }
  | _ => none }
def ParserHeadsWrongFalsely : Prop := parserHeadsRow.holds Tryz.pinned (OpenSpec.ofChange parserHeadsWrong)

/-- 'parallaxlaw13.ParserTargets': WHATEVER THE INPUT: true; the input reads as it did. -/
def parserTargetsSpec : ChangeSpec := { name := "parserTargets", fn := fun _ => fun
  | [d1, d2] => { results := [.lit (.bool true)], args := [d1, d2] }
  | _ => none }
def parserTargetsRow : OpenClaim := { program := "ytacjljomokobiaagreatdoor", sum := "0134c2114803d09cd13f1c1e2e4360a436d18e2785e48d0dc9bfdba0f13b2964", func := "parallax/parallaxlaw13.ParserTargets", spec := "parserTargets", inPlace := ["internal/bytealg.CountString", "internal/bytealg.IndexByteString", "internal/bytealg.IndexString"], unfollowed := true, recurses := true, named := ["unicode/utf8.first", "unicode/utf8.acceptRanges", "internal/bytealg.MaxLen"], apart := false, laid := [("unicode/utf8.acceptRanges", laid_unicode_utf8_acceptRanges), ("unicode/utf8.first", laid_unicode_utf8_first)] }
def ParserTargetsSaid : Prop := parserTargetsRow.holds Tryz.pinned (OpenSpec.ofChange parserTargetsSpec)

/-- ITS FALSE NEIGHBOUR: 'it returns false'. Refute it at one input. -/
def parserTargetsWrong : ChangeSpec := { name := "parserTargets", fn := fun _ => fun
  | [d1, d2] => { results := [.lit (.bool false)], args := [d1, d2] }
  | _ => none }
def ParserTargetsWrongFalsely : Prop := parserTargetsRow.holds Tryz.pinned (OpenSpec.ofChange parserTargetsWrong)

/-- 'parallaxlaw13.ParserBodies': WHATEVER THE INPUT: true; the input reads as it did. -/
def parserBodiesSpec : ChangeSpec := { name := "parserBodies", fn := fun _ => fun
  | [d1, d2, d3] => { results := [.lit (.bool true)], args := [d1, d2, d3] }
  | _ => none }
def parserBodiesRow : OpenClaim := { program := "ytacjljomokobiaagreatdoor", sum := "0134c2114803d09cd13f1c1e2e4360a436d18e2785e48d0dc9bfdba0f13b2964", func := "parallax/parallaxlaw13.ParserBodies", spec := "parserBodies", inPlace := ["internal/bytealg.CountString", "internal/bytealg.IndexByteString", "internal/bytealg.IndexString"], unfollowed := true, recurses := true, named := ["unicode/utf8.first", "unicode/utf8.acceptRanges", "internal/bytealg.MaxLen"], apart := false, laid := [("unicode/utf8.acceptRanges", laid_unicode_utf8_acceptRanges), ("unicode/utf8.first", laid_unicode_utf8_first)] }
def ParserBodiesSaid : Prop := parserBodiesRow.holds Tryz.pinned (OpenSpec.ofChange parserBodiesSpec)

/-- ITS FALSE NEIGHBOUR: 'it returns false'. Refute it at one input. -/
def parserBodiesWrong : ChangeSpec := { name := "parserBodies", fn := fun _ => fun
  | [d1, d2, d3] => { results := [.lit (.bool false)], args := [d1, d2, d3] }
  | _ => none }
def ParserBodiesWrongFalsely : Prop := parserBodiesRow.holds Tryz.pinned (OpenSpec.ofChange parserBodiesWrong)

/-- 'parallaxlaw13.ParserLong': WHATEVER THE INPUT: true; the input reads as it did. -/
def parserLongSpec : ChangeSpec := { name := "parserLong", fn := fun _ => fun
  | [d1, d2, d3, d4] => { results := [.lit (.bool true)], args := [d1, d2, d3, d4] }
  | _ => none }
def parserLongRow : OpenClaim := { program := "ytacjljomokobiaagreatdoor", sum := "0134c2114803d09cd13f1c1e2e4360a436d18e2785e48d0dc9bfdba0f13b2964", func := "parallax/parallaxlaw13.ParserLong", spec := "parserLong", inPlace := ["internal/bytealg.CountString", "internal/bytealg.IndexByteString", "internal/bytealg.IndexString"], unfollowed := true, recurses := true, named := ["unicode/utf8.first", "unicode/utf8.acceptRanges", "internal/bytealg.MaxLen"], apart := false, laid := [("unicode/utf8.acceptRanges", laid_unicode_utf8_acceptRanges), ("unicode/utf8.first", laid_unicode_utf8_first)] }
def ParserLongSaid : Prop := parserLongRow.holds Tryz.pinned (OpenSpec.ofChange parserLongSpec)

/-- ITS FALSE NEIGHBOUR: 'it returns false'. Refute it at one input. -/
def parserLongWrong : ChangeSpec := { name := "parserLong", fn := fun _ => fun
  | [d1, d2, d3, d4] => { results := [.lit (.bool false)], args := [d1, d2, d3, d4] }
  | _ => none }
def ParserLongWrongFalsely : Prop := parserLongRow.holds Tryz.pinned (OpenSpec.ofChange parserLongWrong)

/-- 'parallaxlaw13.ParserWaits': WHATEVER THE INPUT: true; the input reads as it did. -/
def parserWaitsSpec : ChangeSpec := { name := "parserWaits", fn := fun _ => fun
  | [d1, d2, d3, d4] => { results := [.lit (.bool true)], args := [d1, d2, d3, d4] }
  | _ => none }
def parserWaitsRow : OpenClaim := { program := "ytacjljomokobiaagreatdoor", sum := "0134c2114803d09cd13f1c1e2e4360a436d18e2785e48d0dc9bfdba0f13b2964", func := "parallax/parallaxlaw13.ParserWaits", spec := "parserWaits", inPlace := ["internal/bytealg.CountString", "internal/bytealg.IndexByteString", "internal/bytealg.IndexString"], unfollowed := true, recurses := true, named := ["unicode/utf8.first", "unicode/utf8.acceptRanges", "internal/bytealg.MaxLen"], apart := false, laid := [("unicode/utf8.acceptRanges", laid_unicode_utf8_acceptRanges), ("unicode/utf8.first", laid_unicode_utf8_first)] }
def ParserWaitsSaid : Prop := parserWaitsRow.holds Tryz.pinned (OpenSpec.ofChange parserWaitsSpec)

/-- ITS FALSE NEIGHBOUR: 'it returns false'. Refute it at one input. -/
def parserWaitsWrong : ChangeSpec := { name := "parserWaits", fn := fun _ => fun
  | [d1, d2, d3, d4] => { results := [.lit (.bool false)], args := [d1, d2, d3, d4] }
  | _ => none }
def ParserWaitsWrongFalsely : Prop := parserWaitsRow.holds Tryz.pinned (OpenSpec.ofChange parserWaitsWrong)

/-- 'parallaxlaw13.ParserTrailers': WHATEVER THE INPUT: true; the input reads as it did. -/
def parserTrailersSpec : ChangeSpec := { name := "parserTrailers", fn := fun _ => fun
  | [d1, d2, d3] => { results := [.lit (.bool true)], args := [d1, d2, d3] }
  | _ => none }
def parserTrailersRow : OpenClaim := { program := "ytacjljomokobiaagreatdoor", sum := "0134c2114803d09cd13f1c1e2e4360a436d18e2785e48d0dc9bfdba0f13b2964", func := "parallax/parallaxlaw13.ParserTrailers", spec := "parserTrailers", inPlace := ["internal/bytealg.CountString", "internal/bytealg.IndexByteString", "internal/bytealg.IndexString"], unfollowed := true, recurses := true, named := ["unicode/utf8.first", "unicode/utf8.acceptRanges", "internal/bytealg.MaxLen"], apart := false, laid := [("unicode/utf8.acceptRanges", laid_unicode_utf8_acceptRanges), ("unicode/utf8.first", laid_unicode_utf8_first)] }
def ParserTrailersSaid : Prop := parserTrailersRow.holds Tryz.pinned (OpenSpec.ofChange parserTrailersSpec)

/-- ITS FALSE NEIGHBOUR: 'it returns false'. Refute it at one input. -/
def parserTrailersWrong : ChangeSpec := { name := "parserTrailers", fn := fun _ => fun
  | [d1, d2, d3] => { results := [.lit (.bool false)], args := [d1, d2, d3] }
  | _ => none }
def ParserTrailersWrongFalsely : Prop := parserTrailersRow.holds Tryz.pinned (OpenSpec.ofChange parserTrailersWrong)

/-- 'parallaxlaw13.ParserFolds': WHATEVER THE INPUT: true; the input reads as it did. -/
def parserFoldsSpec : ChangeSpec := { name := "parserFolds", fn := fun _ => fun
  | [d1, d2] => { results := [.lit (.bool true)], args := [d1, d2] }
  | _ => none }
def parserFoldsRow : OpenClaim := { program := "ytacjljomokobiaagreatdoor", sum := "0134c2114803d09cd13f1c1e2e4360a436d18e2785e48d0dc9bfdba0f13b2964", func := "parallax/parallaxlaw13.ParserFolds", spec := "parserFolds", inPlace := ["internal/bytealg.CountString", "internal/bytealg.IndexByteString", "internal/bytealg.IndexString"], unfollowed := true, recurses := true, named := ["unicode/utf8.first", "unicode/utf8.acceptRanges", "internal/bytealg.MaxLen"], apart := false, laid := [("unicode/utf8.acceptRanges", laid_unicode_utf8_acceptRanges), ("unicode/utf8.first", laid_unicode_utf8_first)] }
def ParserFoldsSaid : Prop := parserFoldsRow.holds Tryz.pinned (OpenSpec.ofChange parserFoldsSpec)

/-- ITS FALSE NEIGHBOUR: 'it returns false'. Refute it at one input. -/
def parserFoldsWrong : ChangeSpec := { name := "parserFolds", fn := fun _ => fun
  | [d1, d2] => { results := [.lit (.bool false)], args := [d1, d2] }
  | _ => none }
def ParserFoldsWrongFalsely : Prop := parserFoldsRow.holds Tryz.pinned (OpenSpec.ofChange parserFoldsWrong)

/-- 'parallaxlaw13.ParserEmpties': WHATEVER THE INPUT: true; the input reads as it did. -/
def parserEmptiesSpec : ChangeSpec := { name := "parserEmpties", fn := fun _ => fun
  | [d1, d2] => { results := [.lit (.bool true)], args := [d1, d2] }
  | _ => none }
def parserEmptiesRow : OpenClaim := { program := "ytacjljomokobiaagreatdoor", sum := "0134c2114803d09cd13f1c1e2e4360a436d18e2785e48d0dc9bfdba0f13b2964", func := "parallax/parallaxlaw13.ParserEmpties", spec := "parserEmpties", inPlace := ["internal/bytealg.CountString", "internal/bytealg.IndexByteString", "internal/bytealg.IndexString"], unfollowed := true, recurses := true, named := ["unicode/utf8.first", "unicode/utf8.acceptRanges", "internal/bytealg.MaxLen"], apart := false, laid := [("unicode/utf8.acceptRanges", laid_unicode_utf8_acceptRanges), ("unicode/utf8.first", laid_unicode_utf8_first)] }
def ParserEmptiesSaid : Prop := parserEmptiesRow.holds Tryz.pinned (OpenSpec.ofChange parserEmptiesSpec)

/-- ITS FALSE NEIGHBOUR: 'it returns false'. Refute it at one input. -/
def parserEmptiesWrong : ChangeSpec := { name := "parserEmpties", fn := fun _ => fun
  | [d1, d2] => { results := [.lit (.bool false)], args := [d1, d2] }
  | _ => none }
def ParserEmptiesWrongFalsely : Prop := parserEmptiesRow.holds Tryz.pinned (OpenSpec.ofChange parserEmptiesWrong)

/- THE SECOND FORM. 'bulk': how many values and letters a reading holds, each counted each time it is reached (what is shared counts as often as it is met; a slice's spare places count too). A statement '..UptoSaid' is the law's where the arguments, and the package variables that the reading takes, are together of bulk at most 1048576: NARROWER than '..Said'. Prove '..Said' where nothing that the law and all that it calls make is longer than what came in: it says more and counts as full. Else prove '..UptoSaid'. A law counts once. -/
mutual
def uptoBulk {H : Type} : DataW H → Nat
  | .lit (.string bytes) => bytes.length + 1
  | .lit _ => 1
  | .nil => 1
  | .ptr d => uptoBulk d + 1
  | .slice elems spare => uptoBulkAll elems + uptoBulkAll spare + 1
  | .agg parts => uptoBulkAll parts + 1
  | .iface _ d => uptoBulk d + 1
  | .map entries => uptoBulkEntries entries + 1
  | .held _ => 1
def uptoBulkAll {H : Type} : List (DataW H) → Nat
  | [] => 0
  | d :: r => uptoBulk d + uptoBulkAll r
def uptoBulkEntries {H : Type} : List (Lit × DataW H) → Nat
  | [] => 0
  | x :: r => uptoBulkEntry x + uptoBulkEntries r
def uptoBulkEntry {H : Type} : Lit × DataW H → Nat
  | (.string bytes, d) => bytes.length + uptoBulk d + 1
  | (_, d) => uptoBulk d + 1
 end
def uptoSmall : (H : Type) → List (DataW H) → Bool := fun _ ds => decide (uptoBulkAll ds ≤ 1048576)
def OpenSpec.upto (s : _root_.Go.ChangeSpec) : _root_.Go.OpenSpec := { _root_.Go.OpenSpec.ofChange s with cond := some uptoSmall }

/-- 'parallaxlaw13.ParserTells', WHERE WHAT IT READS IS OF BULK AT MOST 1048576: true; the input reads as it did. -/
def parserTellsUptoRow : OpenClaim := { program := "ytacjljomokobiaagreatdoor", sum := "0134c2114803d09cd13f1c1e2e4360a436d18e2785e48d0dc9bfdba0f13b2964", func := "parallax/parallaxlaw13.ParserTells", spec := "parserTells", inPlace := ["internal/bytealg.CountString", "internal/bytealg.IndexByteString", "internal/bytealg.IndexString"], unfollowed := true, recurses := true, named := ["unicode/utf8.first", "unicode/utf8.acceptRanges", "internal/bytealg.MaxLen"], apart := false, laid := [("unicode/utf8.acceptRanges", laid_unicode_utf8_acceptRanges), ("unicode/utf8.first", laid_unicode_utf8_first)], narrowed := true }
def ParserTellsUptoSaid : Prop := parserTellsUptoRow.holds Tryz.pinned (OpenSpec.upto parserTellsSpec)

/-- 'parallaxlaw13.ParserReads', WHERE WHAT IT READS IS OF BULK AT MOST 1048576: true; the input reads as it did. -/
def parserReadsUptoRow : OpenClaim := { program := "ytacjljomokobiaagreatdoor", sum := "0134c2114803d09cd13f1c1e2e4360a436d18e2785e48d0dc9bfdba0f13b2964", func := "parallax/parallaxlaw13.ParserReads", spec := "parserReads", inPlace := ["internal/bytealg.CountString", "internal/bytealg.IndexByteString", "internal/bytealg.IndexString"], unfollowed := true, recurses := true, named := ["unicode/utf8.first", "unicode/utf8.acceptRanges", "internal/bytealg.MaxLen"], apart := false, laid := [("unicode/utf8.acceptRanges", laid_unicode_utf8_acceptRanges), ("unicode/utf8.first", laid_unicode_utf8_first)], narrowed := true }
def ParserReadsUptoSaid : Prop := parserReadsUptoRow.holds Tryz.pinned (OpenSpec.upto parserReadsSpec)

/-- 'parallaxlaw13.ParserForms', WHERE WHAT IT READS IS OF BULK AT MOST 1048576: true; the input reads as it did. -/
def parserFormsUptoRow : OpenClaim := { program := "ytacjljomokobiaagreatdoor", sum := "0134c2114803d09cd13f1c1e2e4360a436d18e2785e48d0dc9bfdba0f13b2964", func := "parallax/parallaxlaw13.ParserForms", spec := "parserForms", inPlace := ["internal/bytealg.CountString", "internal/bytealg.IndexByteString", "internal/bytealg.IndexString"], unfollowed := true, recurses := true, named := ["unicode/utf8.first", "unicode/utf8.acceptRanges", "internal/bytealg.MaxLen"], apart := false, laid := [("unicode/utf8.acceptRanges", laid_unicode_utf8_acceptRanges), ("unicode/utf8.first", laid_unicode_utf8_first)], narrowed := true }
def ParserFormsUptoSaid : Prop := parserFormsUptoRow.holds Tryz.pinned (OpenSpec.upto parserFormsSpec)

/-- 'parallaxlaw13.ParserExtends', WHERE WHAT IT READS IS OF BULK AT MOST 1048576: true; the input reads as it did. -/
def parserExtendsUptoRow : OpenClaim := { program := "ytacjljomokobiaagreatdoor", sum := "0134c2114803d09cd13f1c1e2e4360a436d18e2785e48d0dc9bfdba0f13b2964", func := "parallax/parallaxlaw13.ParserExtends", spec := "parserExtends", inPlace := ["internal/bytealg.CountString", "internal/bytealg.IndexByteString", "internal/bytealg.IndexString"], unfollowed := true, recurses := true, named := ["unicode/utf8.first", "unicode/utf8.acceptRanges", "internal/bytealg.MaxLen"], apart := false, laid := [("unicode/utf8.acceptRanges", laid_unicode_utf8_acceptRanges), ("unicode/utf8.first", laid_unicode_utf8_first)], narrowed := true }
def ParserExtendsUptoSaid : Prop := parserExtendsUptoRow.holds Tryz.pinned (OpenSpec.upto parserExtendsSpec)

/-- 'parallaxlaw13.ParserHeads', WHERE WHAT IT READS IS OF BULK AT MOST 1048576: true; the input reads as it did. -/
def parserHeadsUptoRow : OpenClaim := { program := "ytacjljomokobiaagreatdoor", sum := "0134c2114803d09cd13f1c1e2e4360a436d18e2785e48d0dc9bfdba0f13b2964", func := "parallax/parallaxlaw13.ParserHeads", spec := "parserHeads", inPlace := ["internal/bytealg.CountString", "internal/bytealg.IndexByteString", "internal/bytealg.IndexString"], unfollowed := true, recurses := true, named := ["unicode/utf8.first", "unicode/utf8.acceptRanges", "internal/bytealg.MaxLen"], apart := false, laid := [("unicode/utf8.acceptRanges", laid_unicode_utf8_acceptRanges), ("unicode/utf8.first", laid_unicode_utf8_first)], narrowed := true }
def ParserHeadsUptoSaid : Prop := parserHeadsUptoRow.holds Tryz.pinned (OpenSpec.upto parserHeadsSpec)

/-- 'parallaxlaw13.ParserTargets', WHERE WHAT IT READS IS OF BULK AT MOST 1048576: true; the input reads as it did. -/
def parserTargetsUptoRow : OpenClaim := { program := "ytacjljomokobiaagreatdoor", sum := "0134c2114803d09cd13f1c1e2e4360a436d18e2785e48d0dc9bfdba0f13b2964", func := "parallax/parallaxlaw13.ParserTargets", spec := "parserTargets", inPlace := ["internal/bytealg.CountString", "internal/bytealg.IndexByteString", "internal/bytealg.IndexString"], unfollowed := true, recurses := true, named := ["unicode/utf8.first", "unicode/utf8.acceptRanges", "internal/bytealg.MaxLen"], apart := false, laid := [("unicode/utf8.acceptRanges", laid_unicode_utf8_acceptRanges), ("unicode/utf8.first", laid_unicode_utf8_first)], narrowed := true }
def ParserTargetsUptoSaid : Prop := parserTargetsUptoRow.holds Tryz.pinned (OpenSpec.upto parserTargetsSpec)

/-- 'parallaxlaw13.ParserBodies', WHERE WHAT IT READS IS OF BULK AT MOST 1048576: true; the input reads as it did. -/
def parserBodiesUptoRow : OpenClaim := { program := "ytacjljomokobiaagreatdoor", sum := "0134c2114803d09cd13f1c1e2e4360a436d18e2785e48d0dc9bfdba0f13b2964", func := "parallax/parallaxlaw13.ParserBodies", spec := "parserBodies", inPlace := ["internal/bytealg.CountString", "internal/bytealg.IndexByteString", "internal/bytealg.IndexString"], unfollowed := true, recurses := true, named := ["unicode/utf8.first", "unicode/utf8.acceptRanges", "internal/bytealg.MaxLen"], apart := false, laid := [("unicode/utf8.acceptRanges", laid_unicode_utf8_acceptRanges), ("unicode/utf8.first", laid_unicode_utf8_first)], narrowed := true }
def ParserBodiesUptoSaid : Prop := parserBodiesUptoRow.holds Tryz.pinned (OpenSpec.upto parserBodiesSpec)

/-- 'parallaxlaw13.ParserLong', WHERE WHAT IT READS IS OF BULK AT MOST 1048576: true; the input reads as it did. -/
def parserLongUptoRow : OpenClaim := { program := "ytacjljomokobiaagreatdoor", sum := "0134c2114803d09cd13f1c1e2e4360a436d18e2785e48d0dc9bfdba0f13b2964", func := "parallax/parallaxlaw13.ParserLong", spec := "parserLong", inPlace := ["internal/bytealg.CountString", "internal/bytealg.IndexByteString", "internal/bytealg.IndexString"], unfollowed := true, recurses := true, named := ["unicode/utf8.first", "unicode/utf8.acceptRanges", "internal/bytealg.MaxLen"], apart := false, laid := [("unicode/utf8.acceptRanges", laid_unicode_utf8_acceptRanges), ("unicode/utf8.first", laid_unicode_utf8_first)], narrowed := true }
def ParserLongUptoSaid : Prop := parserLongUptoRow.holds Tryz.pinned (OpenSpec.upto parserLongSpec)

/-- 'parallaxlaw13.ParserWaits', WHERE WHAT IT READS IS OF BULK AT MOST 1048576: true; the input reads as it did. -/
def parserWaitsUptoRow : OpenClaim := { program := "ytacjljomokobiaagreatdoor", sum := "0134c2114803d09cd13f1c1e2e4360a436d18e2785e48d0dc9bfdba0f13b2964", func := "parallax/parallaxlaw13.ParserWaits", spec := "parserWaits", inPlace := ["internal/bytealg.CountString", "internal/bytealg.IndexByteString", "internal/bytealg.IndexString"], unfollowed := true, recurses := true, named := ["unicode/utf8.first", "unicode/utf8.acceptRanges", "internal/bytealg.MaxLen"], apart := false, laid := [("unicode/utf8.acceptRanges", laid_unicode_utf8_acceptRanges), ("unicode/utf8.first", laid_unicode_utf8_first)], narrowed := true }
def ParserWaitsUptoSaid : Prop := parserWaitsUptoRow.holds Tryz.pinned (OpenSpec.upto parserWaitsSpec)

/-- 'parallaxlaw13.ParserTrailers', WHERE WHAT IT READS IS OF BULK AT MOST 1048576: true; the input reads as it did. -/
def parserTrailersUptoRow : OpenClaim := { program := "ytacjljomokobiaagreatdoor", sum := "0134c2114803d09cd13f1c1e2e4360a436d18e2785e48d0dc9bfdba0f13b2964", func := "parallax/parallaxlaw13.ParserTrailers", spec := "parserTrailers", inPlace := ["internal/bytealg.CountString", "internal/bytealg.IndexByteString", "internal/bytealg.IndexString"], unfollowed := true, recurses := true, named := ["unicode/utf8.first", "unicode/utf8.acceptRanges", "internal/bytealg.MaxLen"], apart := false, laid := [("unicode/utf8.acceptRanges", laid_unicode_utf8_acceptRanges), ("unicode/utf8.first", laid_unicode_utf8_first)], narrowed := true }
def ParserTrailersUptoSaid : Prop := parserTrailersUptoRow.holds Tryz.pinned (OpenSpec.upto parserTrailersSpec)

/-- 'parallaxlaw13.ParserFolds', WHERE WHAT IT READS IS OF BULK AT MOST 1048576: true; the input reads as it did. -/
def parserFoldsUptoRow : OpenClaim := { program := "ytacjljomokobiaagreatdoor", sum := "0134c2114803d09cd13f1c1e2e4360a436d18e2785e48d0dc9bfdba0f13b2964", func := "parallax/parallaxlaw13.ParserFolds", spec := "parserFolds", inPlace := ["internal/bytealg.CountString", "internal/bytealg.IndexByteString", "internal/bytealg.IndexString"], unfollowed := true, recurses := true, named := ["unicode/utf8.first", "unicode/utf8.acceptRanges", "internal/bytealg.MaxLen"], apart := false, laid := [("unicode/utf8.acceptRanges", laid_unicode_utf8_acceptRanges), ("unicode/utf8.first", laid_unicode_utf8_first)], narrowed := true }
def ParserFoldsUptoSaid : Prop := parserFoldsUptoRow.holds Tryz.pinned (OpenSpec.upto parserFoldsSpec)

/-- 'parallaxlaw13.ParserEmpties', WHERE WHAT IT READS IS OF BULK AT MOST 1048576: true; the input reads as it did. -/
def parserEmptiesUptoRow : OpenClaim := { program := "ytacjljomokobiaagreatdoor", sum := "0134c2114803d09cd13f1c1e2e4360a436d18e2785e48d0dc9bfdba0f13b2964", func := "parallax/parallaxlaw13.ParserEmpties", spec := "parserEmpties", inPlace := ["internal/bytealg.CountString", "internal/bytealg.IndexByteString", "internal/bytealg.IndexString"], unfollowed := true, recurses := true, named := ["unicode/utf8.first", "unicode/utf8.acceptRanges", "internal/bytealg.MaxLen"], apart := false, laid := [("unicode/utf8.acceptRanges", laid_unicode_utf8_acceptRanges), ("unicode/utf8.first", laid_unicode_utf8_first)], narrowed := true }
def ParserEmptiesUptoSaid : Prop := parserEmptiesUptoRow.holds Tryz.pinned (OpenSpec.upto parserEmptiesSpec)

end Rows
end Go.Proofs.YtacjljomokobiaaGreatDoor
