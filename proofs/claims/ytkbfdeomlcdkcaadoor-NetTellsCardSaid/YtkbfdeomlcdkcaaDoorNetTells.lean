/- For every input, the law NetTells returns true, and its arguments read as they did; the card ties the listed tables to the text. No condition. -/
import Derived.Test.YtkbfdeomlcdkcaaDoorRows
import Derived.Test.YtkbfdeomlcdkcaaDoorCards
import Derived.Test.YtkbfdeomlcdkcaaDoorTie
import Derived.WalkKit
import Derived.ProofKit
import Derived.OpenShut
import Derived.Lay
import Derived.LaidOnce
import Derived.Handed
import Derived.SevenTiedAt
import Derived.MakeChecks
import Derived.Lib.LaidTab
import Derived.Test.YtkbfdeomlcdkcaaDoorPNetTellsD
namespace Go.Proofs.YtkbfdeomlcdkcaaDoor.netTells
open Go.ChangeShapes Go.WideShapes Go.ChangeAt Go.RowKit
set_option linter.unusedVariables false

theorem own : ownKnob Tryd.prog.godebug = none := by kernel_rfl
theorem laid : laidOutB Tryd.prog = true := by kernel_rfl
theorem mapped : mapsRowed Tryd.prog = true := by kernel_rfl
theorem full : ((List.range Tryd.prog.types.size).all fun t => match Tryd.prog.underlying t with | some (.slice e) => decide (0 < Tryd.prog.cellsOf e) | _ => true) = true := by kernel_rfl
theorem shapes : Go.Vx.parsIn Tryd.prog Tryd.f3.params.toList [.str, .sl .byte, .int .u32, .int .u32, .byte] = true := by kernel_rfl
theorem inTable : (Tryd.f3.params.toList.all fun t => decide (t < Tryd.prog.types.size)) = true := by kernel_rfl

theorem tabbed {W : World} (h : laidMetH Tryd.prog Rows.netTellsRow.laid W) : Lib.TabIs Tryd.prog W "internal/strconv.uint64pow10" .u64 Lib.pow10Tab := by
  rw [MakeChecks.laidMetH_plain _ _ _ (by kernel_rfl)] at h
  obtain ⟨_, h0, _⟩ := h
  obtain ⟨_, _, _, _, _, _, _, _, _, _, h0, _⟩ := h0; obtain ⟨_, _, _, _, _, _, _, _, _, _, h0, _⟩ := h0
  obtain ⟨g', t', cs, fuel, p, q, hg', ht', hvar, hd, _, _⟩ := h0
  obtain rfl := Option.some.inj ((show Tryd.prog.globalNamed "internal/strconv.uint64pow10" = some 3 from by kernel_rfl).symm.trans hg')
  obtain rfl := Option.some.inj ((show (Tryd.prog.globals[3]?).map (·.type) = some 94 from by kernel_rfl).symm.trans ht')
  unfold Lib.TabIs
  rw [hvar, ← Lib.cells_of_tab (k := .u64) (n := 20) (e := 44) (by kernel_rfl) (by kernel_rfl) (by kernel_rfl) (by kernel_rfl) (show DataW.trod _ _ _ _ _ _ _ _ _ = some (Lib.tabData .u64 Lib.pow10Tab, p) from hd)]
theorem tabs {W : World} (h : laidMetH Tryd.prog Rows.netTellsRow.laid W) : Go.Vx.TabsOk (fun b o => W.cell? ⟨b, o, none⟩) W := fun g k l hm => by
  have ht := tabbed h
  have hg : Tryd.prog.globalNamed "internal/strconv.uint64pow10" = some 3 := by kernel_rfl
  have hc := Lib.TabIs.cell ht hg 0 (by rw [Lib.pow10Tab_length]; decide)
  have e : (g, k, l) = (3, .u64, Lib.pow10Tab) := by
    unfold Go.Vx.globTabs at hm
    exact (List.mem_singleton.1 hm).trans (by rfl)
  cases e
  unfold Lib.TabIs World.var? at ht
  rw [hg, Option.bind_some] at ht
  refine ⟨⟨_, hc⟩, ?_⟩
  split at ht
  · rename_i cs t m hh
    cases ht
    exact ⟨t, m, hh⟩
  · cases ht

set_option maxRecDepth 100000 in
theorem lifted (os : Os) (started : os.Started) (H : Type) (enc : TypeId × Value → H) :
    ReturnsInHanded {} Tryd.checked os 3 .any (fun w args => (Rows.netTellsSpec.pre enc Tryd.prog Tryd.f3 [] false w args ∧ laidMetH Tryd.prog Rows.netTellsRow.laid w) ∧ sizedMet enc Tryd.prog Tryd.f3 (OpenSpec.ofChange Rows.netTellsSpec) false w args)
      (Rows.netTellsSpec.post enc Tryd.prog Tryd.f3 false true false false) := by
  refine returnsInHanded_of_change_and (C := Tryd.checked) (X := fun w _ => laidMetH Tryd.prog Rows.netTellsRow.laid w) (fun _ _ _ hh h => h.of_heap hh) own started (by kernel_rfl) Tryd.func3
    (ChangeSpec.witness_shaped (enc := enc) (C := Tryd.checked) (os := os) (X := fun w _ => laidMetH Tryd.prog Rows.netTellsRow.laid w) false (World.laidAll Tryd.prog os Rows.netTellsRow.laid) #[.string .empty, .slice none 0 0, .int .u32 0, .int .u32 0, .int .u8 0] 8 (World.laidAll_os _ _ _)
      (World.shaped_of_ZipB (by kernel_rfl) (by kernel_rfl)) (by kernel_rfl) (by kernel_rfl) (by kernel_rfl)
      (by rw [MakeChecks.laidMetH_plain _ _ _ (by kernel_rfl)]; exact laidMet_laidAll _ (by kernel_rfl) (by kernel_rfl))) ?_
  intro W base args ds gs before hval0 hW _ _ hX _
  have hval : ∀ (j : Nat) t v, Tryd.f3.params[j]? = some t → args[j]? = some v → Value.okWide Tryd.prog W .any base t v := hval0
  have hW' := hW
  obtain ⟨p, q, hA0, hV, rfl, hfz, hnd⟩ := hW
  have hA : DataW.TrodAll enc Tryd.prog W 0 (fun _ => true) true Tryd.f3.params.toList args.toList ds p := hA0
  obtain ⟨rfl, rfl⟩ := trodVars_none hV
  simp only [List.append_nil] at hW'
  have hlen : ds.length = 5 := (Go.Vx.trodAll_length hA).trans (by kernel_rfl)
  have hwalk := Go.Vx.law_calls (Go.Vx.law23_NetTells.law_ok (fun x h => Go.Vx.Pl.tells_ok x.2.2.2.2.2 h.2.2.1 h.2.2.2.1)) shapes (fun j t v h1 h2 => hval j t v (by simpa using h1) (by simpa using h2)) hA (Go.Vx.glob_none rfl) (tabs hX)
  refine hwalk.mono fun e W' ⟨he, hg⟩ => ?_
  subst he
  match ds, hlen with
  | [d1, d2, d3, d4, d5], _ =>
    exact ⟨_, rfl, Go.Vx.post_kept (pa := p) (pv := []) hW' (fun _ _ _ => (trodAll_cons_mk (shut_bool Tryd.underlying4 _) trodAll_mk0)) (fun sp hsp => Go.Vx.read_again laid mapped full inTable hA (fun x hx => hW'.lt x hx) hg hsp) (fun _ _ => rfl) (by simp)
      hg (ok_one (by kernel_rfl) rfl (okWide_bool_mk Tryd.underlying4 _))⟩

theorem over : Rows.netTellsRow.holds Tryd.pinned (OpenSpec.ofChange Rows.netTellsSpec) :=
  OpenClaim.holds_of_wide 3 Tryd.f3 rfl rfl rfl rfl rfl rfl rfl ⟨rfl, rfl, rfl, rfl, rfl⟩ rfl rfl rfl rfl rfl (by kernel_rfl) Tryd.func3 (by kernel_rfl)
    (of_decide_eq_true (by kernel_rfl)) (by unfold Func.isWrapper; first | (rw [if_pos (by decide +kernel)]; kernel_rfl) | (rw [if_neg (by decide +kernel)]; exact ⟨rfl, rfl⟩))
    (fun os started H enc _ => lifted os started H enc)

/-- ████ THE STATEMENT ████ -/
theorem proved : Rows.NetTellsCardSaid :=
  Claim7.holds_tied_plain_at .later [] [.data, .data, .data, .data, .pinned] true (true, "8fb4bc0f5a6b88617075969be14d573fb5c7af31c60a01439bbcd4f6e82179d6") false over (fun _ h => by cases h) (by kernel_rfl) (fun _ h => by cases h) netTells_row_tie rfl ⟨rfl, rfl⟩ (by kernel_rfl) rfl
    (fun f fn hf hfn => by
      obtain rfl : f = 3 := Option.some.inj ((show Tryd.prog.funcNamed "parallax/parallaxlaw23.NetTells" = some 3 by kernel_rfl).symm.trans hf) |>.symm
      obtain rfl : fn = Tryd.f3 := (Option.some.inj (Tryd.func3.symm.trans hfn)).symm
      exact ⟨by kernel_rfl, fun j t ht => by
        rw [Tryd.params3] at ht
        have hm : t ∈ [9, 22, 23, 23, 5] := by simpa using Array.mem_of_getElem? ht
        have hall : ([9, 22, 23, 23, 5].all fun u => !Tryd.prog.wantsStandIn u) = true := by kernel_rfl
        exact (show Tryd.prog.wantsStandIn t = false by simpa using List.all_eq_true.1 hall t hm)⟩)
    (by kernel_rfl)
#print axioms proved
end Go.Proofs.YtkbfdeomlcdkcaaDoor.netTells
