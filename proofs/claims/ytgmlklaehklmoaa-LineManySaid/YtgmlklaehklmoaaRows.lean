/-
  No cell of these rows narrows 'for every input' (looked for: loops, veiled, ifaces, maps, wideKeys, modest, calm, conditions, laid).
  DERIVED. THE GIVEN ROWS OF THIS SEAT. 8 by the template 'for every input the law returns true; each argument reads behind the call as it read before'; 0 by the template 'total and deterministic' (their statements: YtgmlklaehklmoaaTotals.lean).
  GIVEN WITH THE SEED: the statements are not yours to turn. If you find one false, say at which input.
  Laid BY PROGRAM, IN A SANDBOX (cutbox-rows.mjs): the forced cells as the released guide's own fill.sh prints them over the translation 3de687a303dffdaf… (all of the seat's roots in one cut). By AI agents, Wed Nov 11 2026. No macro, syntax, notation, axiom, sorry.
-/
import Derived.Test.YtgmlklaehklmoaaChecked
import GoSem.Claim
import GoSem.ClaimJoined
import GoSem.ClaimMapViews
import Derived.JoinedTies
import Derived.KernelRfl
namespace Go.Proofs.Ytgmlklaehklmoaa
/- THE CELL 'sum', in the pinned program and in every row, IS THE sha256 OF THE DUMP (.gsa) THAT YtgmlklaehklmoaaProg.lean LOADS. Nothing in Lean hashes anything: it is a label: what it is worth is what the hold of that sum in a sandbox is worth. -/
noncomputable def Try.pinned : Pinned := { name := "ytgmlklaehklmoaa", sum := "3de687a303dffdaf6ee52b40dc9f9df6ea8a7b555f622a265188952e65bd4e76", checked := Try.checked }
namespace Rows
def none {H : Type} : Left H := { results := [], args := [] }

/-- 'parallaxlaw4.BoundsTell': WHATEVER THE INPUT: true; the input reads as it did. -/
def boundsTellSpec : ChangeSpec := { name := "boundsTell", fn := fun _ => fun
  | [d1, d2, d3] => { results := [.lit (.bool true)], args := [d1, d2, d3] }
  | _ => none }
def boundsTellRow : OpenClaim := { program := "ytgmlklaehklmoaa", sum := "3de687a303dffdaf6ee52b40dc9f9df6ea8a7b555f622a265188952e65bd4e76", func := "parallax/parallaxlaw4.BoundsTell", spec := "boundsTell", unfollowed := true, recurses := true, apart := false }
def BoundsTellSaid : Prop := boundsTellRow.holds Try.pinned (OpenSpec.ofChange boundsTellSpec)

/-- ITS FALSE NEIGHBOUR: 'it returns false'. Refute it at one input. -/
def boundsTellWrong : ChangeSpec := { name := "boundsTell", fn := fun _ => fun
  | [d1, d2, d3] => { results := [.lit (.bool false)], args := [d1, d2, d3] }
  | _ => none }
def BoundsTellWrongFalsely : Prop := boundsTellRow.holds Try.pinned (OpenSpec.ofChange boundsTellWrong)

/-- 'parallaxlaw4.BoundsEdges': WHATEVER THE INPUT: true; the input reads as it did. -/
def boundsEdgesSpec : ChangeSpec := { name := "boundsEdges", fn := fun _ => fun
  | [d1, d2] => { results := [.lit (.bool true)], args := [d1, d2] }
  | _ => none }
def boundsEdgesRow : OpenClaim := { program := "ytgmlklaehklmoaa", sum := "3de687a303dffdaf6ee52b40dc9f9df6ea8a7b555f622a265188952e65bd4e76", func := "parallax/parallaxlaw4.BoundsEdges", spec := "boundsEdges", unfollowed := true, recurses := true, apart := false }
def BoundsEdgesSaid : Prop := boundsEdgesRow.holds Try.pinned (OpenSpec.ofChange boundsEdgesSpec)

/-- ITS FALSE NEIGHBOUR: 'it returns false'. Refute it at one input. -/
def boundsEdgesWrong : ChangeSpec := { name := "boundsEdges", fn := fun _ => fun
  | [d1, d2] => { results := [.lit (.bool false)], args := [d1, d2] }
  | _ => none }
def BoundsEdgesWrongFalsely : Prop := boundsEdgesRow.holds Try.pinned (OpenSpec.ofChange boundsEdgesWrong)

/-- 'parallaxlaw24.BucketPlays': WHATEVER THE INPUT: true; the input reads as it did. -/
def bucketPlaysSpec : ChangeSpec := { name := "bucketPlays", fn := fun _ => fun
  | [d1, d2, d3, d4] => { results := [.lit (.bool true)], args := [d1, d2, d3, d4] }
  | _ => none }
def bucketPlaysRow : OpenClaim := { program := "ytgmlklaehklmoaa", sum := "3de687a303dffdaf6ee52b40dc9f9df6ea8a7b555f622a265188952e65bd4e76", func := "parallax/parallaxlaw24.BucketPlays", spec := "bucketPlays", apart := false }
def BucketPlaysSaid : Prop := bucketPlaysRow.holds Try.pinned (OpenSpec.ofChange bucketPlaysSpec)

/-- ITS FALSE NEIGHBOUR: 'it returns false'. Refute it at one input. -/
def bucketPlaysWrong : ChangeSpec := { name := "bucketPlays", fn := fun _ => fun
  | [d1, d2, d3, d4] => { results := [.lit (.bool false)], args := [d1, d2, d3, d4] }
  | _ => none }
def BucketPlaysWrongFalsely : Prop := bucketPlaysRow.holds Try.pinned (OpenSpec.ofChange bucketPlaysWrong)

/-- 'parallaxlaw24.BucketRates': WHATEVER THE INPUT: true; the input reads as it did. -/
def bucketRatesSpec : ChangeSpec := { name := "bucketRates", fn := fun _ => fun
  | [d1, d2, d3] => { results := [.lit (.bool true)], args := [d1, d2, d3] }
  | _ => none }
def bucketRatesRow : OpenClaim := { program := "ytgmlklaehklmoaa", sum := "3de687a303dffdaf6ee52b40dc9f9df6ea8a7b555f622a265188952e65bd4e76", func := "parallax/parallaxlaw24.BucketRates", spec := "bucketRates", apart := false }
def BucketRatesSaid : Prop := bucketRatesRow.holds Try.pinned (OpenSpec.ofChange bucketRatesSpec)

/-- ITS FALSE NEIGHBOUR: 'it returns false'. Refute it at one input. -/
def bucketRatesWrong : ChangeSpec := { name := "bucketRates", fn := fun _ => fun
  | [d1, d2, d3] => { results := [.lit (.bool false)], args := [d1, d2, d3] }
  | _ => none }
def BucketRatesWrongFalsely : Prop := bucketRatesRow.holds Try.pinned (OpenSpec.ofChange bucketRatesWrong)

/-- 'parallaxlaw24.BucketFills': WHATEVER THE INPUT: true; the input reads as it did. -/
def bucketFillsSpec : ChangeSpec := { name := "bucketFills", fn := fun _ => fun
  | [d1, d2, d3, d4] => { results := [.lit (.bool true)], args := [d1, d2, d3, d4] }
  | _ => none }
def bucketFillsRow : OpenClaim := { program := "ytgmlklaehklmoaa", sum := "3de687a303dffdaf6ee52b40dc9f9df6ea8a7b555f622a265188952e65bd4e76", func := "parallax/parallaxlaw24.BucketFills", spec := "bucketFills", apart := false }
def BucketFillsSaid : Prop := bucketFillsRow.holds Try.pinned (OpenSpec.ofChange bucketFillsSpec)

/-- ITS FALSE NEIGHBOUR: 'it returns false'. Refute it at one input. -/
def bucketFillsWrong : ChangeSpec := { name := "bucketFills", fn := fun _ => fun
  | [d1, d2, d3, d4] => { results := [.lit (.bool false)], args := [d1, d2, d3, d4] }
  | _ => none }
def BucketFillsWrongFalsely : Prop := bucketFillsRow.holds Try.pinned (OpenSpec.ofChange bucketFillsWrong)

/-- 'parallaxlaw6.LinePlays': WHATEVER THE INPUT: true; the input reads as it did. -/
def linePlaysSpec : ChangeSpec := { name := "linePlays", fn := fun _ => fun
  | [d1, d2, d3, d4, d5] => { results := [.lit (.bool true)], args := [d1, d2, d3, d4, d5] }
  | _ => none }
def linePlaysRow : OpenClaim := { program := "ytgmlklaehklmoaa", sum := "3de687a303dffdaf6ee52b40dc9f9df6ea8a7b555f622a265188952e65bd4e76", func := "parallax/parallaxlaw6.LinePlays", spec := "linePlays", apart := false }
def LinePlaysSaid : Prop := linePlaysRow.holds Try.pinned (OpenSpec.ofChange linePlaysSpec)

/-- ITS FALSE NEIGHBOUR: 'it returns false'. Refute it at one input. -/
def linePlaysWrong : ChangeSpec := { name := "linePlays", fn := fun _ => fun
  | [d1, d2, d3, d4, d5] => { results := [.lit (.bool false)], args := [d1, d2, d3, d4, d5] }
  | _ => none }
def LinePlaysWrongFalsely : Prop := linePlaysRow.holds Try.pinned (OpenSpec.ofChange linePlaysWrong)

/-- 'parallaxlaw6.LineMany': WHATEVER THE INPUT: true; the input reads as it did. -/
def lineManySpec : ChangeSpec := { name := "lineMany", fn := fun _ => fun
  | [d1, d2, d3, d4] => { results := [.lit (.bool true)], args := [d1, d2, d3, d4] }
  | _ => none }
def lineManyRow : OpenClaim := { program := "ytgmlklaehklmoaa", sum := "3de687a303dffdaf6ee52b40dc9f9df6ea8a7b555f622a265188952e65bd4e76", func := "parallax/parallaxlaw6.LineMany", spec := "lineMany", apart := false }
def LineManySaid : Prop := lineManyRow.holds Try.pinned (OpenSpec.ofChange lineManySpec)

/-- ITS FALSE NEIGHBOUR: 'it returns false'. Refute it at one input. -/
def lineManyWrong : ChangeSpec := { name := "lineMany", fn := fun _ => fun
  | [d1, d2, d3, d4] => { results := [.lit (.bool false)], args := [d1, d2, d3, d4] }
  | _ => none }
def LineManyWrongFalsely : Prop := lineManyRow.holds Try.pinned (OpenSpec.ofChange lineManyWrong)

/-- 'parallaxlaw6.LineBares': WHATEVER THE INPUT: true; the input reads as it did. -/
def lineBaresSpec : ChangeSpec := { name := "lineBares", fn := fun _ => fun
  | [d1, d2, d3, d4] => { results := [.lit (.bool true)], args := [d1, d2, d3, d4] }
  | _ => none }
def lineBaresRow : OpenClaim := { program := "ytgmlklaehklmoaa", sum := "3de687a303dffdaf6ee52b40dc9f9df6ea8a7b555f622a265188952e65bd4e76", func := "parallax/parallaxlaw6.LineBares", spec := "lineBares", apart := false }
def LineBaresSaid : Prop := lineBaresRow.holds Try.pinned (OpenSpec.ofChange lineBaresSpec)

/-- ITS FALSE NEIGHBOUR: 'it returns false'. Refute it at one input. -/
def lineBaresWrong : ChangeSpec := { name := "lineBares", fn := fun _ => fun
  | [d1, d2, d3, d4] => { results := [.lit (.bool false)], args := [d1, d2, d3, d4] }
  | _ => none }
def LineBaresWrongFalsely : Prop := lineBaresRow.holds Try.pinned (OpenSpec.ofChange lineBaresWrong)

/- THE SECOND FORM. 'bulk': how many values and letters a reading holds, each counted each time it is reached (what is shared counts as often as it is met; a slice's spare places count too). A statement '..UptoSaid' is the law's where the arguments, and the package variables that the reading takes, are together of bulk at most 1048576: NARROWER than '..Said'. Prove '..Said' where nothing that the law and all that it calls make is longer than what came in: it says more and counts as full. Else prove '..UptoSaid'. A law counts once. -/
mutual
def uptoBulk {H : Type} : DataW H → Nat
  | .lit (.string bytes) => bytes.length + 1
  | .lit _ => 1
  | .nil => 1
  | .ptr d => uptoBulk d + 1
  | .slice elems spare => uptoBulkAll elems + uptoBulkAll spare + 1
  | .agg parts => uptoBulkAll parts + 1
  | .iface _ d => uptoBulk d + 1
  | .map entries => uptoBulkEntries entries + 1
  | .held _ => 1
def uptoBulkAll {H : Type} : List (DataW H) → Nat
  | [] => 0
  | d :: r => uptoBulk d + uptoBulkAll r
def uptoBulkEntries {H : Type} : List (Lit × DataW H) → Nat
  | [] => 0
  | x :: r => uptoBulkEntry x + uptoBulkEntries r
def uptoBulkEntry {H : Type} : Lit × DataW H → Nat
  | (.string bytes, d) => bytes.length + uptoBulk d + 1
  | (_, d) => uptoBulk d + 1
 end
def uptoSmall : (H : Type) → List (DataW H) → Bool := fun _ ds => decide (uptoBulkAll ds ≤ 1048576)
def OpenSpec.upto (s : _root_.Go.ChangeSpec) : _root_.Go.OpenSpec := { _root_.Go.OpenSpec.ofChange s with cond := some uptoSmall }

/-- 'parallaxlaw4.BoundsTell', WHERE WHAT IT READS IS OF BULK AT MOST 1048576: true; the input reads as it did. -/
def boundsTellUptoRow : OpenClaim := { program := "ytgmlklaehklmoaa", sum := "3de687a303dffdaf6ee52b40dc9f9df6ea8a7b555f622a265188952e65bd4e76", func := "parallax/parallaxlaw4.BoundsTell", spec := "boundsTell", unfollowed := true, recurses := true, apart := false, narrowed := true }
def BoundsTellUptoSaid : Prop := boundsTellUptoRow.holds Try.pinned (OpenSpec.upto boundsTellSpec)

/-- 'parallaxlaw4.BoundsEdges', WHERE WHAT IT READS IS OF BULK AT MOST 1048576: true; the input reads as it did. -/
def boundsEdgesUptoRow : OpenClaim := { program := "ytgmlklaehklmoaa", sum := "3de687a303dffdaf6ee52b40dc9f9df6ea8a7b555f622a265188952e65bd4e76", func := "parallax/parallaxlaw4.BoundsEdges", spec := "boundsEdges", unfollowed := true, recurses := true, apart := false, narrowed := true }
def BoundsEdgesUptoSaid : Prop := boundsEdgesUptoRow.holds Try.pinned (OpenSpec.upto boundsEdgesSpec)

/-- 'parallaxlaw24.BucketPlays', WHERE WHAT IT READS IS OF BULK AT MOST 1048576: true; the input reads as it did. -/
def bucketPlaysUptoRow : OpenClaim := { program := "ytgmlklaehklmoaa", sum := "3de687a303dffdaf6ee52b40dc9f9df6ea8a7b555f622a265188952e65bd4e76", func := "parallax/parallaxlaw24.BucketPlays", spec := "bucketPlays", apart := false, narrowed := true }
def BucketPlaysUptoSaid : Prop := bucketPlaysUptoRow.holds Try.pinned (OpenSpec.upto bucketPlaysSpec)

/-- 'parallaxlaw24.BucketRates', WHERE WHAT IT READS IS OF BULK AT MOST 1048576: true; the input reads as it did. -/
def bucketRatesUptoRow : OpenClaim := { program := "ytgmlklaehklmoaa", sum := "3de687a303dffdaf6ee52b40dc9f9df6ea8a7b555f622a265188952e65bd4e76", func := "parallax/parallaxlaw24.BucketRates", spec := "bucketRates", apart := false, narrowed := true }
def BucketRatesUptoSaid : Prop := bucketRatesUptoRow.holds Try.pinned (OpenSpec.upto bucketRatesSpec)

/-- 'parallaxlaw24.BucketFills', WHERE WHAT IT READS IS OF BULK AT MOST 1048576: true; the input reads as it did. -/
def bucketFillsUptoRow : OpenClaim := { program := "ytgmlklaehklmoaa", sum := "3de687a303dffdaf6ee52b40dc9f9df6ea8a7b555f622a265188952e65bd4e76", func := "parallax/parallaxlaw24.BucketFills", spec := "bucketFills", apart := false, narrowed := true }
def BucketFillsUptoSaid : Prop := bucketFillsUptoRow.holds Try.pinned (OpenSpec.upto bucketFillsSpec)

/-- 'parallaxlaw6.LinePlays', WHERE WHAT IT READS IS OF BULK AT MOST 1048576: true; the input reads as it did. -/
def linePlaysUptoRow : OpenClaim := { program := "ytgmlklaehklmoaa", sum := "3de687a303dffdaf6ee52b40dc9f9df6ea8a7b555f622a265188952e65bd4e76", func := "parallax/parallaxlaw6.LinePlays", spec := "linePlays", apart := false, narrowed := true }
def LinePlaysUptoSaid : Prop := linePlaysUptoRow.holds Try.pinned (OpenSpec.upto linePlaysSpec)

/-- 'parallaxlaw6.LineMany', WHERE WHAT IT READS IS OF BULK AT MOST 1048576: true; the input reads as it did. -/
def lineManyUptoRow : OpenClaim := { program := "ytgmlklaehklmoaa", sum := "3de687a303dffdaf6ee52b40dc9f9df6ea8a7b555f622a265188952e65bd4e76", func := "parallax/parallaxlaw6.LineMany", spec := "lineMany", apart := false, narrowed := true }
def LineManyUptoSaid : Prop := lineManyUptoRow.holds Try.pinned (OpenSpec.upto lineManySpec)

/-- 'parallaxlaw6.LineBares', WHERE WHAT IT READS IS OF BULK AT MOST 1048576: true; the input reads as it did. -/
def lineBaresUptoRow : OpenClaim := { program := "ytgmlklaehklmoaa", sum := "3de687a303dffdaf6ee52b40dc9f9df6ea8a7b555f622a265188952e65bd4e76", func := "parallax/parallaxlaw6.LineBares", spec := "lineBares", apart := false, narrowed := true }
def LineBaresUptoSaid : Prop := lineBaresUptoRow.holds Try.pinned (OpenSpec.upto lineBaresSpec)

end Rows
end Go.Proofs.Ytgmlklaehklmoaa
