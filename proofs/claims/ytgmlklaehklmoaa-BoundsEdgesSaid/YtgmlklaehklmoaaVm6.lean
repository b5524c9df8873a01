/- Each operation of the evaluator is the machine's: loads, stores, new rows. (A help: no statement of the seat is proved here.) -/
import Derived.Test.YtgmlklaehklmoaaVm5
import Derived.Deep.AppendSrc
import Derived.Deep.Upon
set_option linter.unusedVariables false
set_option linter.unusedSimpArgs false
namespace Go.Vm
section mem
variable {P : Program} {o : Oper} {a : Act} {β : At} {H : Heap} {w : World} {m : Tm}

theorem agg_run {t : TypeId} {b : Bool} (h : isAgg? P t = some b) (w : World) : (isAgg t).run P w = .ok b w := by
  unfold isAgg? at h
  cases hu : P.underlying t with
  | none => rw [hu] at h; cases h
  | some d => rw [hu] at h; cases d <;> simp at h <;> subst h <;> simp [isAgg, run_underlying hu]

theorem place_add (b : Base) (i j : Nat) : (⟨b.blk, b.off + i, none⟩ : Addr).add j = ⟨b.blk, b.off + (i + j), none⟩ := add_add _ b i j rfl

/-- Cells of a row, read one behind another. -/
theorem cells_read {N : Nat} {cs : List AV} {ro : Bool} {b : Base} (hl : Lies N β w cs ro b) (i n : Nat) (h : i + n ≤ cs.length) :
    ∃ vs : List Value, vs.length = n ∧ (∀ j v, vs[j]? = some v → w.cell? ((⟨b.blk, b.off + i, none⟩ : Addr).add j) = some v) ∧ VsRel N β ((cs.drop i).take n) vs := by
  induction n with
  | zero => exact ⟨[], rfl, fun j v hv => by simp at hv, by simpa using .nil⟩
  | succ n ih =>
    obtain ⟨vs, hlen, hc, hr⟩ := ih (by omega)
    obtain ⟨c, hc1, hr1⟩ := hl.cell (i + n) cs[i + n] (List.getElem?_eq_getElem (by omega))
    refine ⟨vs ++ [c], by simp [hlen], fun j v hv => ?_, ?_⟩
    · rcases Nat.lt_or_ge j n with hj | hj
      · rw [List.getElem?_append_left (by omega)] at hv
        exact hc j v hv
      · have : j = n := by
          have := (List.getElem?_eq_some_iff.1 hv).1
          simp [hlen] at this
          omega
        subst this
        rw [List.getElem?_append_right (by omega)] at hv
        simp [hlen] at hv
        subst hv
        rw [place_add]
        exact hc1
    · have e : (cs.drop i).take (n + 1) = (cs.drop i).take n ++ [cs[i + n]] := by
        rw [List.take_succ_eq_append_getElem (by simp; omega)]
        simp
      rw [e]
      exact hr.append (.one hr1)

theorem loadV_sound (hR : Rel β H w) {t : TypeId} {r : Ref} {v : AV} {c : Value} (hx : VRel H.n β (.ptr (some r)) c) (h : loadV P H t r = some v) : ∃ d, (Instr.loadAt t c).run P w = .ok d w ∧ VRel H.n β v d := by
  cases hx with
  | ptr g i ad hg hb =>
    unfold loadV at h
    split at h
    · rename_i cs e ro hget
      obtain ⟨b, hbg⟩ := hR.tot g cs e ro hget
      obtain ⟨cs', e', ro', hget', hl⟩ := hR.lies g b hbg
      rw [hget] at hget'
      cases hget'
      have had := hb b hbg
      subst had
      split at h
      · rename_i hag
        split at h
        · rename_i s hs
          split at h
          · rename_i hle
            cases h
            obtain ⟨vs, hlen, hc, hr⟩ := cells_read hl i s hle
            refine ⟨.agg vs.toArray, ?_, .agg _ _ (by simpa using hr)⟩
            have hrun := run_loadCells_list (P := P) w _ vs hc
            rw [hlen] at hrun
            simp only [Instr.loadAt, Instr.sureAddr, loadVar, Sem.run_bind, Sem.run_pure, Result.andThen_ok, agg_run hag, if_true, run_size hs, hrun]
          · cases h
        · cases h
      · rename_i hag
        obtain ⟨d, hd, hr⟩ := hl.cell i v h
        exact ⟨d, by simp [Instr.loadAt, Instr.sureAddr, loadVar, agg_run hag, run_load, hd], hr⟩
      · cases h
    · cases h

theorem fits_load (hR : Rel β H w) (hT : TRel H.n β m a.tmps) {t : TypeId} {x : Operand} {r : Ref} {v : AV} (ho : o.op = .load t x) (hx : opnd m x = some (.ptr (some r))) (h : loadV P H t r = some v) : Fits P o a β H w v H := by
  obtain ⟨c, hc, hv⟩ := loadV_sound hR (opnd_sound hT hx) h
  refine Fits.same hR (c := c) ?_ hv
  simp only [execOp, ho]
  exact run_v hc

theorem heap_setCells {w : World} (g : Nat) : ∀ (vs : List Value) (o i : Nat), i ≠ g → (w.setCells g o vs).heap[i]? = w.heap[i]?
  | vs, o, i, h => by
    induction vs generalizing w o with
    | nil => rfl
    | cons v vs ih =>
      show ((w.setCell ⟨g, o, none⟩ v).setCells g (o + 1) vs).heap[i]? = _
      rw [ih, Go.RowKit.Below.heap_setCell _ _ _ _ h]
theorem size_setCells {w : World} (g : Nat) : ∀ (vs : List Value) (o : Nat), (w.setCells g o vs).heap.size = w.heap.size
  | vs, o => by
    induction vs generalizing w o with
    | nil => rfl
    | cons v vs ih =>
      show ((w.setCell ⟨g, o, none⟩ v).setCells g (o + 1) vs).heap.size = _
      rw [ih]; simp
theorem tape_setCells {w : World} (g : Nat) : ∀ (vs : List Value) (o : Nat), (w.setCells g o vs).tape = w.tape
  | vs, o => by
    induction vs generalizing w o with
    | nil => rfl
    | cons v vs ih =>
      show ((w.setCell ⟨g, o, none⟩ v).setCells g (o + 1) vs).tape = _
      rw [ih]; rfl
/-- The block that is written keeps its kind and its length. -/
theorem blk_setCells {w : World} (g : Nat) : ∀ (vs : List Value) (o : Nat) {C : Array Value} {e : TypeId} {fr : Nat × Nat}, w.heap[g]? = some (.cells C e fr) → ∃ C', (w.setCells g o vs).heap[g]? = some (.cells C' e fr) ∧ C'.size = C.size
  | vs, o, C, e, fr, h => by
    induction vs generalizing w o C with
    | nil => exact ⟨C, h, rfl⟩
    | cons v vs ih =>
      have h1 : (w.setCell ⟨g, o, none⟩ v).heap[g]? = some (.cells (C.setIfInBounds o v) e fr) := by
        simp [World.setCell, Array.getElem?_modify, h]
      obtain ⟨C', h2, h3⟩ := ih (w := w.setCell ⟨g, o, none⟩ v) (o + 1) (C.setIfInBounds o v) h1
      exact ⟨C', h2, by simpa using h3⟩

theorem Free.setCells {w : World} {b : Base} (h : Free w b) (o : Nat) (vs : List Value) : Free (w.setCells b.blk o vs) b := by
  obtain ⟨⟨C, e, fr, hC, hs⟩, hf⟩ := h
  obtain ⟨C', h1, h2⟩ := blk_setCells b.blk vs o hC
  exact ⟨⟨C', e, fr, h1, by omega⟩, fun j hj => by rw [World.frozen?_setCells]; exact hf j hj⟩
theorem Free.there {w : World} {b : Base} (h : Free w b) {j : Nat} (hj : j < b.room) : (w.cell? ⟨b.blk, b.off + j, none⟩).isSome = true := by
  obtain ⟨⟨C, e, fr, hC, hs⟩, _⟩ := h
  simp [World.cell?, hC, Array.getElem?_eq_getElem (show b.off + j < C.size by omega)]

theorem one_of_plain {N : Nat} {vs : List AV} {cs : List Value} (h : VsRel N β vs cs) (hp : vs.all AV.cell = true) : ∀ u ∈ cs, u.oneCell' = true := by
  induction vs generalizing cs with
  | nil => cases h; intro u hu; cases hu
  | cons v vs ih => cases h with
    | cons _ c _ cs hv hvs =>
      simp only [List.all_cons, Bool.and_eq_true] at hp
      intro u hu
      rcases List.mem_cons.1 hu with rfl | hu
      · obtain ⟨h1, h2⟩ := hv.one hp.1
        cases u <;> simp [Value.oneCell'] at * <;> simp_all
      · exact ih hvs hp.2 u hu

/-- A row behind a write of some of its cells. -/
theorem Lies.write {N : Nat} {cs vs : List AV} {b : Base} (hl : Lies N β w cs false b) {i : Nat} {ds : List Value} (hv : VsRel N β vs ds) (hp : vs.all AV.cell = true) (hi : i + vs.length ≤ cs.length) :
    Lies N β (w.setCells b.blk (b.off + i) ds) (splice cs i vs) false b := by
  have hlen := hv.length
  have hroom := hl.room
  have hfree := hl.free rfl
  constructor
  · intro j v hj
    unfold splice at hj
    by_cases h1 : j < i
    · rw [List.append_assoc, List.getElem?_append_left (by simp; omega), List.getElem?_take_of_lt h1] at hj
      obtain ⟨c, hc, hr⟩ := hl.cell j v hj
      exact ⟨c, by rw [World.cell?_setCells_out _ _ _ _ _ (fun _ _ => .inl (by simp; omega))]; exact hc, hr⟩
    · by_cases h2 : j < i + vs.length
      · rw [List.append_assoc, List.getElem?_append_right (by simp; omega), List.getElem?_append_left (by simp; omega)] at hj
        have e : j - (cs.take i).length = j - i := by simp; omega
        rw [e] at hj
        obtain ⟨c, hc, hr⟩ := hv.at (j - i) v hj
        refine ⟨c, ?_, hr⟩
        have hlt : j - i < ds.length := by omega
        have := World.cell?_setCells_in b.blk ds (b.off + i) w (fun k hk => by
          have := hfree.there (j := i + k) (by omega)
          rwa [show b.off + (i + k) = b.off + i + k from by omega] at this) (j - i) hlt
        rw [show b.off + j = b.off + i + (j - i) from by omega, this]
        rw [List.getElem?_eq_getElem hlt] at hc
        exact hc
      · have e1 : (cs.take i ++ vs).length = i + vs.length := by simp; omega
        rw [List.getElem?_append_right (by omega), e1, List.getElem?_drop] at hj
        rw [show i + vs.length + (j - (i + vs.length)) = j from by omega] at hj
        obtain ⟨c, hc, hr⟩ := hl.cell j v hj
        exact ⟨c, by rw [World.cell?_setCells_out _ _ _ _ _ (fun _ _ => .inr (by simp; omega))]; exact hc, hr⟩
  · intro j v hj
    have hm : v ∈ splice cs i vs := List.mem_of_getElem? hj
    unfold splice at hm
    simp only [List.mem_append] at hm
    rcases hm with (hm | hm) | hm
    · obtain ⟨k, hk⟩ := List.mem_iff_getElem?.1 (List.mem_of_mem_take hm); exact hl.plain k v hk
    · exact List.all_eq_true.1 hp v hm
    · obtain ⟨k, hk⟩ := List.mem_iff_getElem?.1 (List.mem_of_mem_drop hm); exact hl.plain k v hk
  · unfold splice; simp; omega
  · rw [size_setCells]; exact hl.blk
  · exact fun _ => hfree.setCells _ _

theorem fits_store (hR : Rel β H w) (hT : TRel H.n β m a.tmps) {t : TypeId} {x y : Operand} {r : Ref} {v : AV} {H' : Heap} (ho : o.op = .store t x y) (hx : opnd m x = some (.ptr (some r))) (hy : opnd m y = some v) (h : storeV P H t r v = some H') :
    Fits P o a β H w (.tup []) H' := by
  have hp := opnd_sound hT hx
  have hv := opnd_sound hT hy
  unfold storeV at h
  split at h
  · rename_i cs e hget
    split at h
    · rename_i s hs
      split at h
      · rename_i hc
        cases h
        obtain ⟨hlen, hle, hall⟩ := hc
        cases hq : a.eval x <;> rw [hq] at hp <;> cases hp
        rename_i g i ad hg hb
        obtain ⟨b, hbg⟩ := hR.tot g cs e false hget
        obtain ⟨cs', e', ro', hget', hl⟩ := hR.lies g b hbg
        simp only at hget
        rw [hget] at hget'
        cases hget'
        have had := hb b hbg
        subst had
        have hvc := hv.cells
        have hl1 := hvc.length
        simp only [Array.length_toList] at hl1
        have hone := one_of_plain hvc hall
        have hfree := hl.free rfl
        have hroom := hl.room
        simp only at hle
        have hrun := run_storeCells_cells (P := P) b.blk (b.off + i) (a.eval y).cells.toList 0 w
          (fun j hj => by
            have := hfree.there (j := i + j) (by simp at hj; omega)
            rwa [show b.off + (i + j) = b.off + i + 0 + j from by omega] at this)
          (fun j hj => by
            have := hfree.2 (i + j) (by simp at hj; omega)
            rwa [show b.off + (i + j) = b.off + i + 0 + j from by omega] at this) hone
        refine ⟨β, w.setCells b.blk (b.off + i) (a.eval y).cells.toList, hR.write hbg hget (fun k hk => heap_setCells _ _ _ _ hk) (hl.write hvc hall (by omega)),
          Le.write hbg hget (World.os_setCells ..) (tape_setCells ..) (World.output_setCells ..) (size_setCells ..) (fun k hk => heap_setCells _ _ _ _ hk), .inr ⟨?_, rfl⟩⟩
        have hsz : ¬ ((a.eval y).cells.size ≠ s) := by omega
        simp only [execOp, ho, Instr.storeAt, hq, Instr.sureAddr, storeVar, Sem.run_bind, Sem.run_pure, Result.andThen_ok, run_size hs, hsz, if_false, hrun, Nat.add_zero]
      · cases h
    · cases h
  · cases h
end mem
end Go.Vm
