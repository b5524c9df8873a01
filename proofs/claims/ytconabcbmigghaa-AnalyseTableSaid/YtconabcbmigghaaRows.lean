/-
  No cell of these rows narrows 'for every input' (looked for: loops, veiled, ifaces, maps, wideKeys, modest, calm, conditions, laid).
  DERIVED. THE GIVEN ROWS OF THIS SEAT. 3 by the template 'for every input the law returns true; each argument reads behind the call as it read before'; 0 by the template 'total and deterministic' (their statements: YtconabcbmigghaaTotals.lean).
  GIVEN WITH THE SEED: the statements are not yours to turn. If you find one false, say at which input.
  Laid BY PROGRAM, IN A SANDBOX (cutbox-rows.mjs): the forced cells as the released guide's own fill.sh prints them over the translation 8031f7ce768c8626… (all of the seat's roots in one cut). By AI agents, Wed Nov 11 2026. No macro, syntax, notation, axiom, sorry.
-/
import Derived.Test.YtconabcbmigghaaChecked
import GoSem.Claim
import GoSem.ClaimJoined
import GoSem.ClaimMapViews
import Derived.JoinedTies
import Derived.KernelRfl
namespace Go.Proofs.Ytconabcbmigghaa
/- THE CELL 'sum', in the pinned program and in every row, IS THE sha256 OF THE DUMP (.gsa) THAT YtconabcbmigghaaProg.lean LOADS. Nothing in Lean hashes anything: it is a label: what it is worth is what the hold of that sum in a sandbox is worth. -/
noncomputable def Try.pinned : Pinned := { name := "ytconabcbmigghaa", sum := "8031f7ce768c86263ebfcc32ab79fd620ede2ac74f0cc0e9ee2e2ac2add3a313", checked := Try.checked }
namespace Rows
def none {H : Type} : Left H := { results := [], args := [] }

/-- 'parallaxlaw16.AnalyseSafe': WHATEVER THE INPUT: true; the input reads as it did. -/
def analyseSafeSpec : ChangeSpec := { name := "analyseSafe", fn := fun _ => fun
  | [d1, d2, d3, d4, d5, d6] => { results := [.lit (.bool true)], args := [d1, d2, d3, d4, d5, d6] }
  | _ => none }
def analyseSafeRow : OpenClaim := { program := "ytconabcbmigghaa", sum := "8031f7ce768c86263ebfcc32ab79fd620ede2ac74f0cc0e9ee2e2ac2add3a313", func := "parallax/parallaxlaw16.AnalyseSafe", spec := "analyseSafe", unfollowed := true, recurses := true, apart := false }
def AnalyseSafeSaid : Prop := analyseSafeRow.holds Try.pinned (OpenSpec.ofChange analyseSafeSpec)

/-- ITS FALSE NEIGHBOUR: 'it returns false'. Refute it at one input. -/
def analyseSafeWrong : ChangeSpec := { name := "analyseSafe", fn := fun _ => fun
  | [d1, d2, d3, d4, d5, d6] => { results := [.lit (.bool false)], args := [d1, d2, d3, d4, d5, d6] }
  | _ => none }
def AnalyseSafeWrongFalsely : Prop := analyseSafeRow.holds Try.pinned (OpenSpec.ofChange analyseSafeWrong)

/-- 'parallaxlaw16.AnalyseTable': WHATEVER THE INPUT: true; the input reads as it did. -/
def analyseTableSpec : ChangeSpec := { name := "analyseTable", fn := fun _ => fun
  | [d1, d2, d3] => { results := [.lit (.bool true)], args := [d1, d2, d3] }
  | _ => none }
def analyseTableRow : OpenClaim := { program := "ytconabcbmigghaa", sum := "8031f7ce768c86263ebfcc32ab79fd620ede2ac74f0cc0e9ee2e2ac2add3a313", func := "parallax/parallaxlaw16.AnalyseTable", spec := "analyseTable", unfollowed := true, recurses := true, apart := false }
def AnalyseTableSaid : Prop := analyseTableRow.holds Try.pinned (OpenSpec.ofChange analyseTableSpec)

/-- ITS FALSE NEIGHBOUR: 'it returns false'. Refute it at one input. -/
def analyseTableWrong : ChangeSpec := { name := "analyseTable", fn := fun _ => fun
  | [d1, d2, d3] => { results := [.lit (.bool false)], args := [d1, d2, d3] }
  | _ => none }
def AnalyseTableWrongFalsely : Prop := analyseTableRow.holds Try.pinned (OpenSpec.ofChange analyseTableWrong)

/-- 'parallaxlaw16.AnalyseDecides': WHATEVER THE INPUT: true; the input reads as it did. -/
def analyseDecidesSpec : ChangeSpec := { name := "analyseDecides", fn := fun _ => fun
  | [d1, d2, d3] => { results := [.lit (.bool true)], args := [d1, d2, d3] }
  | _ => none }
def analyseDecidesRow : OpenClaim := { program := "ytconabcbmigghaa", sum := "8031f7ce768c86263ebfcc32ab79fd620ede2ac74f0cc0e9ee2e2ac2add3a313", func := "parallax/parallaxlaw16.AnalyseDecides", spec := "analyseDecides", unfollowed := true, recurses := true, apart := false }
def AnalyseDecidesSaid : Prop := analyseDecidesRow.holds Try.pinned (OpenSpec.ofChange analyseDecidesSpec)

/-- ITS FALSE NEIGHBOUR: 'it returns false'. Refute it at one input. -/
def analyseDecidesWrong : ChangeSpec := { name := "analyseDecides", fn := fun _ => fun
  | [d1, d2, d3] => { results := [.lit (.bool false)], args := [d1, d2, d3] }
  | _ => none }
def AnalyseDecidesWrongFalsely : Prop := analyseDecidesRow.holds Try.pinned (OpenSpec.ofChange analyseDecidesWrong)

/- THE SECOND FORM. 'bulk': how many values and letters a reading holds, each counted each time it is reached (what is shared counts as often as it is met; a slice's spare places count too). A statement '..UptoSaid' is the law's where the arguments, and the package variables that the reading takes, are together of bulk at most 1048576: NARROWER than '..Said'. Prove '..Said' where nothing that the law and all that it calls make is longer than what came in: it says more and counts as full. Else prove '..UptoSaid'. A law counts once. -/
mutual
def uptoBulk {H : Type} : DataW H → Nat
  | .lit (.string bytes) => bytes.length + 1
  | .lit _ => 1
  | .nil => 1
  | .ptr d => uptoBulk d + 1
  | .slice elems spare => uptoBulkAll elems + uptoBulkAll spare + 1
  | .agg parts => uptoBulkAll parts + 1
  | .iface _ d => uptoBulk d + 1
  | .map entries => uptoBulkEntries entries + 1
  | .held _ => 1
def uptoBulkAll {H : Type} : List (DataW H) → Nat
  | [] => 0
  | d :: r => uptoBulk d + uptoBulkAll r
def uptoBulkEntries {H : Type} : List (Lit × DataW H) → Nat
  | [] => 0
  | x :: r => uptoBulkEntry x + uptoBulkEntries r
def uptoBulkEntry {H : Type} : Lit × DataW H → Nat
  | (.string bytes, d) => bytes.length + uptoBulk d + 1
  | (_, d) => uptoBulk d + 1
 end
def uptoSmall : (H : Type) → List (DataW H) → Bool := fun _ ds => decide (uptoBulkAll ds ≤ 1048576)
def OpenSpec.upto (s : _root_.Go.ChangeSpec) : _root_.Go.OpenSpec := { _root_.Go.OpenSpec.ofChange s with cond := some uptoSmall }

/-- 'parallaxlaw16.AnalyseSafe', WHERE WHAT IT READS IS OF BULK AT MOST 1048576: true; the input reads as it did. -/
def analyseSafeUptoRow : OpenClaim := { program := "ytconabcbmigghaa", sum := "8031f7ce768c86263ebfcc32ab79fd620ede2ac74f0cc0e9ee2e2ac2add3a313", func := "parallax/parallaxlaw16.AnalyseSafe", spec := "analyseSafe", unfollowed := true, recurses := true, apart := false, narrowed := true }
def AnalyseSafeUptoSaid : Prop := analyseSafeUptoRow.holds Try.pinned (OpenSpec.upto analyseSafeSpec)

/-- 'parallaxlaw16.AnalyseTable', WHERE WHAT IT READS IS OF BULK AT MOST 1048576: true; the input reads as it did. -/
def analyseTableUptoRow : OpenClaim := { program := "ytconabcbmigghaa", sum := "8031f7ce768c86263ebfcc32ab79fd620ede2ac74f0cc0e9ee2e2ac2add3a313", func := "parallax/parallaxlaw16.AnalyseTable", spec := "analyseTable", unfollowed := true, recurses := true, apart := false, narrowed := true }
def AnalyseTableUptoSaid : Prop := analyseTableUptoRow.holds Try.pinned (OpenSpec.upto analyseTableSpec)

/-- 'parallaxlaw16.AnalyseDecides', WHERE WHAT IT READS IS OF BULK AT MOST 1048576: true; the input reads as it did. -/
def analyseDecidesUptoRow : OpenClaim := { program := "ytconabcbmigghaa", sum := "8031f7ce768c86263ebfcc32ab79fd620ede2ac74f0cc0e9ee2e2ac2add3a313", func := "parallax/parallaxlaw16.AnalyseDecides", spec := "analyseDecides", unfollowed := true, recurses := true, apart := false, narrowed := true }
def AnalyseDecidesUptoSaid : Prop := analyseDecidesUptoRow.holds Try.pinned (OpenSpec.upto analyseDecidesSpec)

end Rows
end Go.Proofs.Ytconabcbmigghaa
