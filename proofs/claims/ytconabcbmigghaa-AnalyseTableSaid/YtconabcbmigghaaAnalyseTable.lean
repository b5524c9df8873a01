/- For every input, the law AnalyseTable returns true, and its arguments read as they did. No condition. -/
import Derived.Test.YtconabcbmigghaaRows
import Derived.WalkKit
import Derived.ProofKit
import Derived.OpenShut
import Derived.Test.YtconabcbmigghaaPTE
namespace Go.Proofs.Ytconabcbmigghaa.analyseTable
open Go.ChangeShapes Go.WideShapes Go.ChangeAt Go.RowKit
set_option linter.unusedVariables false

theorem own : ownKnob Try.prog.godebug = none := by kernel_rfl
theorem laid : laidOutB Try.prog = true := by kernel_rfl
theorem mapped : mapsRowed Try.prog = true := by kernel_rfl
theorem full : ((List.range Try.prog.types.size).all fun t => match Try.prog.underlying t with | some (.slice e) => decide (0 < Try.prog.cellsOf e) | _ => true) = true := by kernel_rfl
theorem shapes : Go.Vx.parsIn Try.prog Try.f4.params.toList [.byte, .bool, .bool] = true := by kernel_rfl
theorem inTable : (Try.f4.params.toList.all fun t => decide (t < Try.prog.types.size)) = true := by kernel_rfl

/-! ### THE ROW's STEP -/
set_option maxRecDepth 100000 in
theorem lifted (os : Os) (started : os.Started) (H : Type) (enc : TypeId × Value → H) :
    ReturnsInHanded {} Try.checked os 4 .any (Rows.analyseTableSpec.pre6 enc Try.prog Try.f4 Rows.analyseTableRow.domain false) (Rows.analyseTableSpec.post enc Try.prog Try.f4 false true false false) := by
  refine returnsInHanded_of_change (C := Try.checked) own started (by kernel_rfl) Try.func4
    (ChangeSpec.witness6 (enc := enc) (C := Try.checked) false ⟨#[], #[.int .u8 0, .bool false, .bool false], []⟩ 8 (by kernel_rfl) (by kernel_rfl) (by kernel_rfl) (by kernel_rfl)) ?_
  intro W base args ds gs before hval0 hW hcnd _
  have hval : ∀ (j : Nat) t v, Try.f4.params[j]? = some t → args[j]? = some v → Value.okWide Try.prog W .any base t v := hval0
  have hW' := hW
  obtain ⟨p, q, hA0, hV, rfl, hfz, hnd⟩ := hW
  have hA : DataW.TrodAll enc Try.prog W 0 (fun _ => true) true Try.f4.params.toList args.toList ds p := hA0
  obtain ⟨rfl, rfl⟩ := trodVars_none hV
  simp only [List.append_nil] at hW'
  have hlen : ds.length = 3 := (Go.Vx.trodAll_length hA).trans (by kernel_rfl)
  have hwalk := Go.Vx.law_calls Go.Vx.Pl.table_con shapes (fun j t v h1 h2 => hval j t v (by simpa using h1) (by simpa using h2)) hA (Go.Vx.glob_none rfl)
  refine hwalk.mono fun e W' ⟨he, hg⟩ => ?_
  subst he
  match ds, hlen with
  | [d1, d2, d3], _ =>
    exact ⟨_, rfl, Go.Vx.post_kept (pa := p) (pv := []) hW' (fun _ _ _ => (trodAll_cons_mk (shut_bool Try.underlying4 _) trodAll_mk0)) (fun sp hsp => Go.Vx.read_again laid mapped full inTable hA (fun x hx => hW'.lt x hx) hg hsp) (fun _ _ => rfl) (by simp)
      hg (ok_one (by kernel_rfl) rfl (okWide_bool_mk Try.underlying4 _))⟩

theorem over : Rows.analyseTableRow.holds Try.pinned (OpenSpec.ofChange Rows.analyseTableSpec) :=
  OpenClaim.holds_of_wide 4 Try.f4 rfl rfl rfl rfl rfl rfl rfl ⟨rfl, rfl, rfl, rfl, rfl⟩ rfl rfl rfl rfl rfl (by kernel_rfl) Try.func4 (by kernel_rfl)
    (of_decide_eq_true (by kernel_rfl)) (by unfold Func.isWrapper; first | (rw [if_pos (by decide +kernel)]; kernel_rfl) | (rw [if_neg (by decide +kernel)]; exact ⟨rfl, rfl⟩))
    (fun os started H enc _ => lifted os started H enc)

/-- ████ THE STATEMENT ████ -/
theorem proved : Rows.AnalyseTableSaid :=
  over
#print axioms proved
end Go.Proofs.Ytconabcbmigghaa.analyseTable
