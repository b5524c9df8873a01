/- For every input, the law ReplyTells returns true, and its arguments read as they did; the card ties the listed tables to the text. No condition. -/
import Derived.Test.YtbaaoanhglemaaaGreatDoorRows
import Derived.Test.YtbaaoanhglemaaaGreatDoorCards
import Derived.Test.YtbaaoanhglemaaaGreatDoorTie
import Derived.WalkKit
import Derived.ProofKit
import Derived.OpenShut
import Derived.Lay
import Derived.LaidOnce
import Derived.Handed
import Derived.SevenTiedAt
import Derived.MakeChecks
import Derived.Lib.LaidTab
import Derived.Test.YtbaaoanhglemaaaGreatDoorPReplyTellsE
namespace Go.Proofs.YtbaaoanhglemaaaGreatDoor.replyTells
open Go.ChangeShapes Go.WideShapes Go.ChangeAt Go.RowKit
set_option linter.unusedVariables false

theorem own : ownKnob Tryz.prog.godebug = none := by kernel_rfl
theorem laid : laidOutB Tryz.prog = true := by kernel_rfl
theorem mapped : mapsRowed Tryz.prog = true := by kernel_rfl
theorem full : ((List.range Tryz.prog.types.size).all fun t => match Tryz.prog.underlying t with | some (.slice e) => decide (0 < Tryz.prog.cellsOf e) | _ => true) = true := by kernel_rfl
theorem shapes : Go.Vx.parsIn Tryz.prog Tryz.f3.params.toList [(.pair (.int .i64) (.pair (.sl (.pair .str .str)) (.sl .byte))), .sl .byte, .int .i64, .sl .byte, .bool, .bool, .str] = true := by kernel_rfl
theorem inTable : (Tryz.f3.params.toList.all fun t => decide (t < Tryz.prog.types.size)) = true := by kernel_rfl

theorem tabbed0 {W : World} (h : laidMetH Tryz.prog Rows.replyTellsRow.laid W) : Lib.TabIs Tryz.prog W "internal/strconv.uint64pow10" .u64 Lib.pow10Tab := by
  have hdat : (Rows.laid_internal_strconv_uint64pow10 : DataW Unit) = Lib.tabData .u64 Lib.pow10Tab := by kernel_rfl
  rw [MakeChecks.laidMetH_plain _ _ _ (by kernel_rfl)] at h
  obtain ⟨_, h0, _⟩ := h
  obtain ⟨_, _, _, _, _, _, _, _, _, _, h0, _⟩ := h0; obtain ⟨_, _, _, _, _, _, _, _, _, _, h0, _⟩ := h0
  obtain ⟨g', t', cs, fuel, p, q, hg', ht', hvar, hd, _, _⟩ := h0
  obtain rfl := Option.some.inj ((show Tryz.prog.globalNamed "internal/strconv.uint64pow10" = some 2 from by kernel_rfl).symm.trans hg')
  obtain rfl := Option.some.inj ((show (Tryz.prog.globals[2]?).map (·.type) = some 130 from by kernel_rfl).symm.trans ht')
  replace hd : DataW.trod _ _ _ _ _ _ _ _ _ = some ((Rows.laid_internal_strconv_uint64pow10 : DataW Unit), p) := hd
  rw [hdat] at hd
  unfold Lib.TabIs
  rw [hvar, ← Lib.cells_of_tab (k := .u64) (n := 20) (e := 113) (by kernel_rfl) (by kernel_rfl) (by kernel_rfl) (by kernel_rfl) hd]
theorem tabOk0 {W : World} (h : laidMetH Tryz.prog Rows.replyTellsRow.laid W) : (∃ c, W.cell? ⟨2, 0, none⟩ = some c) ∧ ∃ t m, W.heap[2]? = some (.cells (Lib.pow10Tab.map fun z => Value.int .u64 z).toArray t m) := by
  have ht := tabbed0 h
  have hg : Tryz.prog.globalNamed "internal/strconv.uint64pow10" = some 2 := by kernel_rfl
  have hc := Lib.TabIs.cell ht hg 0 (by rw [Lib.pow10Tab_length]; decide)
  unfold Lib.TabIs World.var? at ht
  rw [hg, Option.bind_some] at ht
  refine ⟨⟨_, hc⟩, ?_⟩
  split at ht
  · rename_i cs t m hh
    cases ht
    exact ⟨t, m, hh⟩
  · cases ht
theorem tabbed1 {W : World} (h : laidMetH Tryz.prog Rows.replyTellsRow.laid W) : Lib.TabIs Tryz.prog W "strings.asciiSpace" .u8 Lib.asciiSpaceTab := by
  have hdat : (Rows.laid_strings_asciiSpace : DataW Unit) = Lib.tabData .u8 Lib.asciiSpaceTab := by kernel_rfl
  rw [MakeChecks.laidMetH_plain _ _ _ (by kernel_rfl)] at h
  obtain ⟨_, h0, _⟩ := h
  obtain ⟨_, _, _, _, _, _, _, _, _, _, h0, _⟩ := h0; obtain ⟨_, _, _, _, _, _, _, _, _, _, h0, _⟩ := h0; obtain ⟨_, _, _, _, _, _, _, _, _, _, h0, _⟩ := h0; obtain ⟨_, _, _, _, _, _, _, _, _, _, h0, _⟩ := h0; obtain ⟨_, _, _, _, _, _, _, _, _, _, h0, _⟩ := h0
  obtain ⟨g', t', cs, fuel, p, q, hg', ht', hvar, hd, _, _⟩ := h0
  obtain rfl := Option.some.inj ((show Tryz.prog.globalNamed "strings.asciiSpace" = some 0 from by kernel_rfl).symm.trans hg')
  obtain rfl := Option.some.inj ((show (Tryz.prog.globals[0]?).map (·.type) = some 109 from by kernel_rfl).symm.trans ht')
  replace hd : DataW.trod _ _ _ _ _ _ _ _ _ = some ((Rows.laid_strings_asciiSpace : DataW Unit), p) := hd
  rw [hdat] at hd
  unfold Lib.TabIs
  rw [hvar, ← Lib.cells_of_tab (k := .u8) (n := 256) (e := 5) (by kernel_rfl) (by kernel_rfl) (by kernel_rfl) (by kernel_rfl) hd]
theorem tabOk1 {W : World} (h : laidMetH Tryz.prog Rows.replyTellsRow.laid W) : (∃ c, W.cell? ⟨0, 0, none⟩ = some c) ∧ ∃ t m, W.heap[0]? = some (.cells (Lib.asciiSpaceTab.map fun z => Value.int .u8 z).toArray t m) := by
  have ht := tabbed1 h
  have hg : Tryz.prog.globalNamed "strings.asciiSpace" = some 0 := by kernel_rfl
  have hc := Lib.TabIs.cell ht hg 0 (by rw [Lib.asciiSpaceTab_length]; decide)
  unfold Lib.TabIs World.var? at ht
  rw [hg, Option.bind_some] at ht
  refine ⟨⟨_, hc⟩, ?_⟩
  split at ht
  · rename_i cs t m hh
    cases ht
    exact ⟨t, m, hh⟩
  · cases ht
theorem tabs {W : World} (h : laidMetH Tryz.prog Rows.replyTellsRow.laid W) : Go.Vx.TabsOk (fun b o => W.cell? ⟨b, o, none⟩) W := fun g k l hm => by
  rw [show Go.Vx.globTabs = [(2, .u64, Lib.pow10Tab), (0, .u8, Lib.asciiSpaceTab)] from by kernel_rfl] at hm
  simp only [List.mem_cons, List.not_mem_nil, or_false] at hm
  rcases hm with e | e
  · cases e
    exact tabOk0 h
  · cases e
    exact tabOk1 h

set_option maxRecDepth 100000 in
theorem lifted (os : Os) (started : os.Started) (H : Type) (enc : TypeId × Value → H) :
    ReturnsInHanded {} Tryz.checked os 3 .any (fun w args => (Rows.replyTellsSpec.pre enc Tryz.prog Tryz.f3 [] false w args ∧ laidMetH Tryz.prog Rows.replyTellsRow.laid w) ∧ sizedMet enc Tryz.prog Tryz.f3 (OpenSpec.ofChange Rows.replyTellsSpec) false w args)
      (Rows.replyTellsSpec.post enc Tryz.prog Tryz.f3 false true false false) := by
  refine returnsInHanded_of_change_and (C := Tryz.checked) (X := fun w _ => laidMetH Tryz.prog Rows.replyTellsRow.laid w) (fun _ _ _ hh h => h.of_heap hh) own started (by kernel_rfl) Tryz.func3
    (ChangeSpec.witness_shaped (enc := enc) (C := Tryz.checked) (os := os) (X := fun w _ => laidMetH Tryz.prog Rows.replyTellsRow.laid w) false (World.laidAll Tryz.prog os Rows.replyTellsRow.laid) #[.agg #[.int .i64 0, .slice none 0 0, .slice none 0 0], .slice none 0 0, .int .i64 0, .slice none 0 0, .bool false, .bool false, .string .empty] 8 (World.laidAll_os _ _ _)
      (World.shaped_of_ZipB (by kernel_rfl) (by kernel_rfl)) (by kernel_rfl) (by kernel_rfl) (by kernel_rfl)
      (by rw [MakeChecks.laidMetH_plain _ _ _ (by kernel_rfl)]; exact laidMet_laidAll _ (by kernel_rfl) (by kernel_rfl))) ?_
  intro W base args ds gs before hval0 hW _ hZ hX _
  have hval : ∀ (j : Nat) t v, Tryz.f3.params[j]? = some t → args[j]? = some v → Value.okWide Tryz.prog W .any base t v := hval0
  have hW' := hW
  obtain ⟨p, q, hA0, hV, rfl, hfz, hnd⟩ := hW
  have hA : DataW.TrodAll enc Tryz.prog W 0 (fun _ => true) true Tryz.f3.params.toList args.toList ds p := hA0
  obtain ⟨rfl, rfl⟩ := trodVars_none hV
  simp only [List.append_nil] at hW'
  have hlen : ds.length = 7 := (Go.Vx.trodAll_length hA).trans (by kernel_rfl)
  have hwalk := Go.Vx.law_calls (Go.Vx.law27_ReplyTells.law_ok (fun x h => Go.Vx.Pl.tells_ok x.2.1.1 x.2.1.2.1 x.2.1.2.2 x.2.2.1 x.2.2.2.1 x.2.2.2.2.1 x.2.2.2.2.2.1 x.2.2.2.2.2.2.1 x.2.2.2.2.2.2.2 h.1.2.1.2)) shapes (fun j t v h1 h2 => hval j t v (by simpa using h1) (by simpa using h2)) hA (Go.Vx.glob_none rfl) (tabs hX) hZ
  refine hwalk.mono fun e W' ⟨he, hg⟩ => ?_
  subst he
  match ds, hlen with
  | [d1, d2, d3, d4, d5, d6, d7], _ =>
    exact ⟨_, rfl, Go.Vx.post_kept (pa := p) (pv := []) hW' (fun _ _ _ => (trodAll_cons_mk (shut_bool Tryz.underlying4 _) trodAll_mk0)) (fun sp hsp => Go.Vx.read_again laid mapped full inTable hA (fun x hx => hW'.lt x hx) hg hsp) (fun _ _ => rfl) (by simp)
      hg (ok_one (by kernel_rfl) rfl (okWide_bool_mk Tryz.underlying4 _))⟩

theorem over : Rows.replyTellsRow.holds Tryz.pinned (OpenSpec.ofChange Rows.replyTellsSpec) :=
  OpenClaim.holds_of_wide 3 Tryz.f3 rfl rfl rfl rfl rfl rfl rfl ⟨rfl, rfl, rfl, rfl, rfl⟩ rfl rfl rfl rfl rfl (by kernel_rfl) Tryz.func3 (by kernel_rfl)
    (of_decide_eq_true (by kernel_rfl)) (by unfold Func.isWrapper; first | (rw [if_pos (by decide +kernel)]; kernel_rfl) | (rw [if_neg (by decide +kernel)]; exact ⟨rfl, rfl⟩))
    (fun os started H enc _ => lifted os started H enc)

/-- ████ THE STATEMENT ████ -/
theorem proved : Rows.ReplyTellsCardSaid :=
  Claim7.holds_tied_plain_at .later [] [.data, .data, .data, .data, .listed, .data, .pinned] true (true, "6783db4ca1b46842e1c575afe9042ec0e7448d7246048fd4c3a9bedb4ac1a4c3") false over (fun _ h => by cases h) (by kernel_rfl) (fun _ h => by cases h) replyTells_row_tie rfl ⟨rfl, rfl⟩ (by kernel_rfl) rfl
    (fun f fn hf hfn => by
      obtain rfl : f = 3 := Option.some.inj ((show Tryz.prog.funcNamed "parallax/parallaxlaw27.ReplyTells" = some 3 by kernel_rfl).symm.trans hf) |>.symm
      obtain rfl : fn = Tryz.f3 := (Option.some.inj (Tryz.func3.symm.trans hfn)).symm
      exact ⟨by kernel_rfl, fun j t ht => by
        rw [Tryz.params3] at ht
        have hm : t ∈ [25, 23, 3, 23, 4, 4, 9] := by simpa using Array.mem_of_getElem? ht
        have hall : ([25, 23, 3, 23, 4, 4, 9].all fun u => !Tryz.prog.wantsStandIn u) = true := by kernel_rfl
        exact (show Tryz.prog.wantsStandIn t = false by simpa using List.all_eq_true.1 hall t hm)⟩)
    (by kernel_rfl)
#print axioms proved
end Go.Proofs.YtbaaoanhglemaaaGreatDoor.replyTells
