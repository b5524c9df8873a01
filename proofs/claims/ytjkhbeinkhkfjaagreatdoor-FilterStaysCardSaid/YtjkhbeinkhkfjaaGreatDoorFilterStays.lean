/- For every input, the law FilterStays returns true, and its arguments read as they did; the card ties the listed tables to the text. No condition. -/
import Derived.Test.YtjkhbeinkhkfjaaGreatDoorRows
import Derived.Test.YtjkhbeinkhkfjaaGreatDoorCards
import Derived.Test.YtjkhbeinkhkfjaaGreatDoorTie
import Derived.WalkKit
import Derived.ProofKit
import Derived.OpenShut
import Derived.Lay
import Derived.LaidOnce
import Derived.Handed
import Derived.SevenTiedAt
import Derived.MakeChecks
import Derived.Test.YtjkhbeinkhkfjaaGreatDoorPFilterStaysF
namespace Go.Proofs.YtjkhbeinkhkfjaaGreatDoor.filterStays
open Go.ChangeShapes Go.WideShapes Go.ChangeAt Go.RowKit
set_option linter.unusedVariables false

theorem own : ownKnob Tryz.prog.godebug = none := by kernel_rfl
theorem laid : laidOutB Tryz.prog = true := by kernel_rfl
theorem mapped : mapsRowed Tryz.prog = true := by kernel_rfl
theorem full : ((List.range Tryz.prog.types.size).all fun t => match Tryz.prog.underlying t with | some (.slice e) => decide (0 < Tryz.prog.cellsOf e) | _ => true) = true := by kernel_rfl
theorem shapes : Go.Vx.parsIn Tryz.prog Tryz.f3.params.toList [.sl .byte, .int .u32, .byte, .sl .byte] = true := by kernel_rfl
theorem inTable : (Tryz.f3.params.toList.all fun t => decide (t < Tryz.prog.types.size)) = true := by kernel_rfl

set_option maxRecDepth 100000 in
theorem lifted (os : Os) (started : os.Started) (H : Type) (enc : TypeId × Value → H) :
    ReturnsInHanded {} Tryz.checked os 3 .any (fun w args => (Rows.filterStaysSpec.pre enc Tryz.prog Tryz.f3 [] false w args ∧ laidMetH Tryz.prog Rows.filterStaysRow.laid w) ∧ sizedMet enc Tryz.prog Tryz.f3 (OpenSpec.ofChange Rows.filterStaysSpec) false w args)
      (Rows.filterStaysSpec.post enc Tryz.prog Tryz.f3 false true false false) := by
  refine returnsInHanded_of_change_and (C := Tryz.checked) (X := fun w _ => laidMetH Tryz.prog Rows.filterStaysRow.laid w) (fun _ _ _ hh h => h.of_heap hh) own started (by kernel_rfl) Tryz.func3
    (ChangeSpec.witness_shaped (enc := enc) (C := Tryz.checked) (os := os) (X := fun w _ => laidMetH Tryz.prog Rows.filterStaysRow.laid w) false (World.laidAll Tryz.prog os Rows.filterStaysRow.laid) #[.slice none 0 0, .int .u32 0, .int .u8 0, .slice none 0 0] 8 (World.laidAll_os _ _ _)
      (World.shaped_of_ZipB (by kernel_rfl) (by kernel_rfl)) (by kernel_rfl) (by kernel_rfl) (by kernel_rfl)
      (by rw [MakeChecks.laidMetH_plain _ _ _ (by kernel_rfl)]; exact laidMet_laidAll _ (by kernel_rfl) (by kernel_rfl))) ?_
  intro W base args ds gs before hval0 hW _ _ hX _
  have hval : ∀ (j : Nat) t v, Tryz.f3.params[j]? = some t → args[j]? = some v → Value.okWide Tryz.prog W .any base t v := hval0
  have hW' := hW
  obtain ⟨p, q, hA0, hV, rfl, hfz, hnd⟩ := hW
  have hA : DataW.TrodAll enc Tryz.prog W 0 (fun _ => true) true Tryz.f3.params.toList args.toList ds p := hA0
  obtain ⟨rfl, rfl⟩ := trodVars_none hV
  simp only [List.append_nil] at hW'
  have hlen : ds.length = 4 := (Go.Vx.trodAll_length hA).trans (by kernel_rfl)
  have hwalk := Go.Vx.law_calls (Go.Vx.q29.law_ok (fun x _ => Go.Vx.Pl.stays_ok x.2.1 x.2.2.1 x.2.2.2.1 x.2.2.2.2)) shapes (fun j t v h1 h2 => hval j t v (by simpa using h1) (by simpa using h2)) hA (Go.Vx.glob_none rfl) (Go.Vx.tabs_none rfl)
  refine hwalk.mono fun e W' ⟨he, hg⟩ => ?_
  subst he
  match ds, hlen with
  | [d1, d2, d3, d4], _ =>
    exact ⟨_, rfl, Go.Vx.post_kept (pa := p) (pv := []) hW' (fun _ _ _ => (trodAll_cons_mk (shut_bool Tryz.underlying4 _) trodAll_mk0)) (fun sp hsp => Go.Vx.read_again laid mapped full inTable hA (fun x hx => hW'.lt x hx) hg hsp) (fun _ _ => rfl) (by simp)
      hg (ok_one (by kernel_rfl) rfl (okWide_bool_mk Tryz.underlying4 _))⟩

theorem over : Rows.filterStaysRow.holds Tryz.pinned (OpenSpec.ofChange Rows.filterStaysSpec) :=
  OpenClaim.holds_of_wide 3 Tryz.f3 rfl rfl rfl rfl rfl rfl rfl ⟨rfl, rfl, rfl, rfl, rfl⟩ rfl rfl rfl rfl rfl (by kernel_rfl) Tryz.func3 (by kernel_rfl)
    (of_decide_eq_true (by kernel_rfl)) (by unfold Func.isWrapper; first | (rw [if_pos (by decide +kernel)]; kernel_rfl) | (rw [if_neg (by decide +kernel)]; exact ⟨rfl, rfl⟩))
    (fun os started H enc _ => lifted os started H enc)

/-- ████ THE STATEMENT ████ -/
theorem proved : Rows.FilterStaysCardSaid :=
  Claim7.holds_tied_plain_at .later [] [.data, .pinned] true (true, "7af1beaafda259c2ae27f2aff801a94163b831d3d521d028fc16d36d31a24dbd") false over (fun _ h => by cases h) (by kernel_rfl) (fun _ h => by cases h) filterStays_row_tie rfl ⟨rfl, rfl⟩ (by kernel_rfl) rfl
    (fun f fn hf hfn => by
      obtain rfl : f = 3 := Option.some.inj ((show Tryz.prog.funcNamed "parallax/parallaxlaw14.FilterStays" = some 3 by kernel_rfl).symm.trans hf) |>.symm
      obtain rfl : fn = Tryz.f3 := (Option.some.inj (Tryz.func3.symm.trans hfn)).symm
      exact ⟨by kernel_rfl, fun j t ht => by
        rw [Tryz.params3] at ht
        have hm : t ∈ [22, 23, 5, 22] := by simpa using Array.mem_of_getElem? ht
        have hall : ([22, 23, 5, 22].all fun u => !Tryz.prog.wantsStandIn u) = true := by kernel_rfl
        exact (show Tryz.prog.wantsStandIn t = false by simpa using List.all_eq_true.1 hall t hm)⟩)
    (by kernel_rfl)
#print axioms proved
end Go.Proofs.YtjkhbeinkhkfjaaGreatDoor.filterStays
