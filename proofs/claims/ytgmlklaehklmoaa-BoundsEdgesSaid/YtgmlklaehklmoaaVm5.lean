/- Each operation of the evaluator is the machine's: indexes, cuts, lengths, structs. (A help: no statement of the seat is proved here.) -/
import Derived.Test.YtgmlklaehklmoaaVm4
set_option linter.unusedVariables false
set_option linter.unusedSimpArgs false
namespace Go.Vm
section pure_
variable {P : Program} {o : Oper} {a : Act} {β : At} {H : Heap} {w : World} {m : Tm}

theorem run_size {t : TypeId} {s : Nat} (h : size? P t = some s) (w : World) : (sizeOf t).run P w = .ok s w := by
  unfold size? at h
  cases hi : P.info? t with
  | none => rw [hi] at h; cases h
  | some i => rw [hi] at h; cases h; simp [sizeOf, typeInfo, hi]

theorem indexA_sound {N : Nat} {t : TypeId} {x ix v : AV} {p q : Value} (hx : VRel N β x p) (hi : VRel N β ix q) (h : indexA P t x ix = some v) (w : World) : ∃ c, (Instr.index t p q).run P w = .ok c w ∧ VRel N β v c := by
  unfold indexA at h
  split at h
  · rename_i s k i hu
    obtain ⟨b, rfl, hb⟩ := str_of hx
    rw [int_of hi]
    split at h
    · rename_i h0
      cases hs : s[i.toNat]? with
      | none => rw [hs] at h; cases h
      | some u =>
        rw [hs] at h
        cases h
        have hb' : b[i.toNat]? = some u := by rw [sget hb]; exact hs
        exact ⟨.int .u8 u.toNat, by simp [Instr.index, asIntOf, run_underlying hu, h0, hb'], .int _ _⟩
    · cases h
  · rename_i n e xs k i hu
    split at h
    · rename_i s hs
      split at h
      · rename_i hb
        cases hx with
        | agg _ cs hx =>
          rw [int_of hi]
          obtain ⟨c, hc, hr⟩ := part_sound (P := P) hx h w
          exact ⟨c, by simp [Instr.index, asIntOf, run_underlying hu, hb, run_size hs, hc], hr⟩
      · cases h
    · cases h
  · cases h

theorem add_add (ad : Addr) (b : Base) (i k : Nat) (h : ad = ⟨b.blk, b.off + i, none⟩) : ad.add k = ⟨b.blk, b.off + (i + k), none⟩ := by
  subst h
  unfold Addr.add
  split
  · rename_i e; simp [e]
  · simp [Nat.add_assoc]

theorem indexAddrA_sound {N : Nat} {t : TypeId} {x ix v : AV} {p q : Value} (hx : VRel N β x p) (hi : VRel N β ix q) (h : indexAddrA P t x ix = some v) (w : World) : ∃ c, (Instr.indexAt t p q).run P w = .ok c w ∧ VRel N β v c := by
  unfold indexAddrA at h
  split at h
  · rename_i e r n z k i hu
    split at h
    · rename_i s hs
      split at h
      · rename_i hb
        cases h
        rw [int_of hi]
        cases hx with
        | slice g j _ _ cap ad hg hn hbb =>
          refine ⟨.pointer (some (ad.add (i.toNat * s))), by simp [Instr.indexAt, asIntOf, run_underlying hu, hb, run_size hs], .ptr _ _ _ hg fun b hb' => ?_⟩
          have hcap : 0 < cap := by omega
          exact add_add _ _ _ _ ((hbb b hb').1 hcap)
      · cases h
    · cases h
  · rename_i n e r k i hu
    split at h
    · rename_i s hs
      split at h
      · rename_i hb
        cases h
        rw [int_of hi]
        cases hx with
        | ptr g j ad hg hbb =>
          refine ⟨.pointer (some (ad.add (i.toNat * s))), by simp [Instr.indexAt, asIntOf, run_underlying hu, hb, run_size hs, Instr.sureAddr], .ptr _ _ _ hg fun b hb' => ?_⟩
          exact add_add _ _ _ _ (hbb b hb')
      · cases h
    · cases h
  · cases h

theorem fits_index (hR : Rel β H w) (hT : TRel H.n β m a.tmps) {t : TypeId} {x y : Operand} {p q v : AV} (ho : o.op = .index t x y) (hx : opnd m x = some p) (hy : opnd m y = some q) (h : indexA P t p q = some v) : Fits P o a β H w v H := by
  obtain ⟨c, hc, hv⟩ := indexA_sound (opnd_sound hT hx) (opnd_sound hT hy) h w
  refine Fits.same hR (c := c) ?_ hv
  simp only [execOp, ho]
  exact run_v hc
theorem fits_indexAddr (hR : Rel β H w) (hT : TRel H.n β m a.tmps) {t : TypeId} {x y : Operand} {p q v : AV} (ho : o.op = .indexAddr t x y) (hx : opnd m x = some p) (hy : opnd m y = some q) (h : indexAddrA P t p q = some v) : Fits P o a β H w v H := by
  obtain ⟨c, hc, hv⟩ := indexAddrA_sound (opnd_sound hT hx) (opnd_sound hT hy) h w
  refine Fits.same hR (c := c) ?_ hv
  simp only [execOp, ho]
  exact run_v hc

/-- A bound that is left out, or a number. -/
def BRel (x : Option AV) (c : Option Value) : Prop := (x = none ∧ c = none) ∨ ∃ k n, x = some (.int k n) ∧ c = some (.int k n)
theorem bound_run {k : IntKind} {n : Int} {y : Nat} (h0 : 0 ≤ n) (h1 : n ≤ y) (code : BoundsCode) (w : World) : (Instr.sliceBound (.int k n) y code).run P w = .ok n.toNat w := by
  simp [Instr.sliceBound, asIntOf, h0, h1]
theorem bounds_run {lo hi : Option AV} {cl ch : Option Value} (hl : BRel lo cl) (hh : BRel hi ch) {len cap : Nat} (hc : len ≤ cap) {l h : Int} (el : boundOf 0 lo = some l) (eh : boundOf len hi = some h)
    (h0 : 0 ≤ l) (h1 : l ≤ h) (h2 : h ≤ len) (b : Bool) (w : World) : (Instr.sliceBounds b len cap cl ch none).run P w = .ok (l.toNat, h.toNat, cap) w := by
  rcases hl with ⟨rfl, rfl⟩ | ⟨k, n, rfl, rfl⟩ <;> rcases hh with ⟨rfl, rfl⟩ | ⟨k', n', rfl, rfl⟩ <;> simp only [boundOf, Option.some.injEq] at el eh <;> subst el <;> subst eh
  · simp [Instr.sliceBounds]
  · simp [Instr.sliceBounds, bound_run (P := P) (k := k') (n := n') (y := cap) (by omega) (by omega)]
  · simp [Instr.sliceBounds, bound_run (P := P) (k := k) (n := n) (y := len) (by omega) (by omega)]
  · have e : ((n'.toNat : Nat) : Int) = n' := by omega
    simp [Instr.sliceBounds, bound_run (P := P) (k := k') (n := n') (y := cap) (by omega) (by omega), bound_run (P := P) (k := k) (n := n) (y := n'.toNat) (by omega) (by omega)]

theorem bounds_run2 {lo hi : Option AV} {cl ch : Option Value} (hl : BRel lo cl) (hh : BRel hi ch) {len : Nat} {l h : Int} (el : boundOf 0 lo = some l) (eh : boundOf len hi = some h)
    (h0 : 0 ≤ l) (h1 : l ≤ h) (h2 : h ≤ len) (b : Bool) (w : World) : (Instr.sliceBounds b len len cl ch none).run P w = .ok (l.toNat, h.toNat, len) w := bounds_run hl hh (Nat.le_refl _) el eh h0 h1 h2 b w

theorem sliceOp_sound {N : Nat} {t : TypeId} {x v : AV} {p : Value} {lo hi : Option AV} {cl ch : Option Value} (hx : VRel N β x p) (hl : BRel lo cl) (hh : BRel hi ch) (h : sliceOp P t x lo hi = some v) (w : World) :
    ∃ c, (Instr.sliceAt t p cl ch none).run P w = .ok c w ∧ VRel N β v c := by
  unfold sliceOp at h
  split at h
  · rename_i s hu
    split at h
    · rename_i l u el eu
      split at h
      · rename_i hb
        cases h
        obtain ⟨b, rfl, hb'⟩ := str_of hx
        have hlen := slen hb'
        refine ⟨.string (b.extract l.toNat u.toNat), ?_, .str _ _ ?_⟩
        · have := bounds_run2 (P := P) hl hh (len := b.size) el (by rw [hlen]; exact eu) hb.1 hb.2.1 (by rw [hlen]; exact hb.2.2) false w
          simp [Instr.sliceAt, Instr.slice, run_underlying hu, this]
        · rw [Lib.extract_data, hb', List.drop_take]
      · cases h
    · cases h
  · rename_i e r n sz hu
    split at h
    · rename_i l u el eu
      split at h
      · rename_i hb
        split at h
        · cases h
        · rename_i s hs
          cases hx with
          | snil =>
            cases h
            have hr := bounds_run2 (P := P) hl hh (len := 0) el eu hb.1 hb.2.1 hb.2.2 true w
            have hu0 : u.toNat = 0 := by omega
            have hl0 : l.toNat = 0 := by omega
            refine ⟨.slice none 0 0, ?_, .snil _⟩
            simp only [Instr.sliceAt, Instr.slice, Sem.run_bind, run_underlying hu, Result.andThen_ok, hr, run_size hs, hu0, hl0]
            simp
          | slice g j _ _ cap ad hg hn hbb =>
            simp only at h
            split at h
            · rename_i hs'
              subst hs'
              cases h
              have hr := bounds_run (P := P) hl hh hn el eu hb.1 hb.2.1 hb.2.2 true w
              refine ⟨.slice (some (if cap = l.toNat then ad else ad.add (l.toNat * s))) (u.toNat - l.toNat) (cap - l.toNat), ?_, ?_⟩
              · simp only [Instr.sliceAt, Instr.slice, Sem.run_bind, run_underlying hu, Result.andThen_ok, hr, run_size hs]
                by_cases e : cap = l.toNat <;> simp [e]
              · have e1 : (u - l).toNat = u.toNat - l.toNat := by omega
                rw [e1]
                refine .slice _ _ _ _ _ _ hg (by omega) fun b hb' => ?_
                obtain ⟨h1, h2⟩ := hbb b hb'
                constructor
                · intro hc
                  rw [if_neg (by omega)]
                  exact add_add _ _ _ _ (h1 (by omega))
                · have : cap * s = l.toNat * s + (cap - l.toNat) * s := by rw [← Nat.add_mul]; congr 1; omega
                  omega
            · cases h
      · cases h
    · cases h
  · cases h

theorem opt_sound {N : Nat} (hT : TRel N β m a.tmps) {x : Option Operand} {y : Option AV} (h : optOpnd m x = some y) (d : Nat) (l : Int) (hb : boundOf d y = some l) : BRel y (x.map a.eval) := by
  cases x with
  | none => cases h; exact .inl ⟨rfl, rfl⟩
  | some x =>
    simp only [optOpnd] at h
    cases hx : opnd m x with
    | none => rw [hx] at h; cases h
    | some v =>
      rw [hx] at h
      cases h
      have hv := opnd_sound hT hx
      cases v <;> simp only [boundOf] at hb <;> try (first | cases hb; done)
      exact .inr ⟨_, _, rfl, by rw [Option.map_some, int_of hv]⟩

theorem fits_slice (hR : Rel β H w) (hT : TRel H.n β m a.tmps) {t : TypeId} {x : Operand} {lo hi : Option Operand} {p v : AV} {l u : Option AV} (ho : o.op = .slice t x lo hi none) (hx : opnd m x = some p) (hl : optOpnd m lo = some l) (hh : optOpnd m hi = some u) (h : sliceOp P t p l u = some v) : Fits P o a β H w v H := by
  have hbl : ∃ d q, boundOf d l = some q := by
    unfold sliceOp at h
    split at h
    · split at h
      · rename_i q _ e _; exact ⟨_, q, e⟩
      · cases h
    · split at h
      · rename_i q _ e _; exact ⟨_, q, e⟩
      · cases h
    · cases h
  have hbu : ∃ d q, boundOf d u = some q := by
    unfold sliceOp at h
    split at h
    · split at h
      · rename_i _ q _ e; exact ⟨_, q, e⟩
      · cases h
    · split at h
      · rename_i _ q _ e; exact ⟨_, q, e⟩
      · cases h
    · cases h
  obtain ⟨d, q, e⟩ := hbl
  obtain ⟨d', q', e'⟩ := hbu
  obtain ⟨c, hc, hv⟩ := sliceOp_sound (opnd_sound hT hx) (opt_sound hT hl d q e) (opt_sound hT hh d' q' e') h w
  refine Fits.same hR (c := c) ?_ hv
  simp only [execOp, ho, Option.map_none]
  exact run_v hc

/-! Parts laid into cells. -/
theorem fold_set (off : Nat) : ∀ (l : List Value) (k : Nat) (cs : Array Value), off + k + l.length ≤ cs.size →
    ((l.zipIdx k).foldl (fun cs p => cs.setIfInBounds (off + p.2) p.1) cs).toList = cs.toList.take (off + k) ++ l ++ cs.toList.drop (off + k + l.length)
  | [], k, cs, h => by simp
  | x :: l, k, cs, h => by
    simp only [List.zipIdx_cons, List.foldl_cons]
    rw [fold_set off l (k + 1) (cs.setIfInBounds (off + k) x) (by simp at h ⊢; omega)]
    simp only [Array.toList_setIfInBounds, List.length_cons]
    have hlt : off + k < cs.toList.length := by simp at h ⊢; omega
    have e1 : (cs.toList.set (off + k) x).take (off + (k + 1)) = cs.toList.take (off + k) ++ [x] := by
      rw [show off + (k + 1) = (off + k) + 1 from by omega, List.take_succ_eq_append_getElem (by simpa using hlt), List.take_set_of_le (Nat.le_refl _)]
      simp
    have e2 : (cs.toList.set (off + k) x).drop (off + (k + 1) + l.length) = cs.toList.drop (off + k + (l.length + 1)) := by
      rw [List.drop_set_of_lt (by omega)]
      congr 1
      omega
    rw [e1, e2]
    simp

theorem fill_sound {N : Nat} {place : Nat → Option (Nat × Nat)} : ∀ (ps : List (Nat × AV)) (qs : List (Nat × Value)) (cells out : List AV) (cs : Array Value), fillA place cells ps = some out →
    ps.map (·.1) = qs.map (·.1) → VsRel N β (ps.map (·.2)) (qs.map (·.2)) → VsRel N β cells cs.toList → ∃ ds, Instr.fill place cs qs = some ds ∧ VsRel N β out ds.toList
  | [], qs, cells, out, cs, h, hi, hv, hc => by
    cases qs with
    | nil => simp only [fillA] at h; cases h; exact ⟨cs, rfl, hc⟩
    | cons q qs => simp at hi
  | (i, v) :: ps, qs, cells, out, cs, h, hi, hv, hc => by
    cases qs with
    | nil => simp at hi
    | cons q qs =>
      obtain ⟨j, c⟩ := q
      simp only [List.map_cons, List.cons.injEq] at hi hv
      obtain ⟨rfl, hi⟩ := hi
      cases hv with
      | cons _ _ _ _ hv hvs =>
        simp only [fillA] at h
        split at h
        · cases h
        · rename_i off size hp
          split at h
          · rename_i hle
            have hcells := hv.cells
            have hl := hcells.length
            have hl2 := hc.length
            simp only [Array.length_toList] at hl hl2
            have h1 : ¬ (c.cells.size ≠ size ∨ off + c.cells.size > cs.size) := by omega
            simp only [Instr.fill, hp]
            have h2 : (c.cells.size ≠ size || decide (off + c.cells.size > cs.size)) = false := by simp; omega
            have hset : VsRel N β (splice cells off v.cells) (c.cells.zipIdx.foldl (fun cs p => cs.setIfInBounds (off + p.2) p.1) cs).toList := by
              rw [← Array.foldl_toList, Array.toList_zipIdx]
              have := fold_set off c.cells.toList 0 cs (by simp; omega)
              rw [this]
              unfold splice
              rw [hcells.length]
              exact ((hc.take _).append hcells).append (hc.drop _)
            obtain ⟨ds, hd, hr⟩ := fill_sound ps qs _ out _ h hi hvs hset
            refine ⟨ds, ?_, hr⟩
            rw [← hd]
            simp only [h2]
            rfl
          · cases h

theorem zero_sound {N : Nat} {t : TypeId} {z : AV} (h : zero? P t = some z) (w : World) : ∃ c, (zeroValue t).run P w = .ok c w ∧ VRel N β z c := by
  unfold zero? at h
  cases hi : P.info? t with
  | none => rw [hi] at h; cases h
  | some i =>
    rw [hi] at h
    simp only [Option.bind_some] at h
    cases hz : i.zero with
    | none => rw [hz] at h; cases h
    | some c => rw [hz] at h; exact ⟨c, by simp [zeroValue, typeInfo, hi, hz], ofConst_sound h⟩

theorem partsA_sound {N : Nat} (hT : TRel N β m a.tmps) : ∀ {l : List (Nat × Operand)} {ps : List (Nat × AV)}, partsA m l = some ps →
    ps.map (·.1) = (l.map fun p => (p.1, a.eval p.2)).map (·.1) ∧ VsRel N β (ps.map (·.2)) ((l.map fun p => (p.1, a.eval p.2)).map (·.2))
  | [], ps, h => by cases h; exact ⟨rfl, .nil⟩
  | (i, x) :: l, ps, h => by
    simp only [partsA] at h
    split at h
    · rename_i b bs h1 h2
      cases h
      obtain ⟨e, r⟩ := partsA_sound hT h2
      exact ⟨by simp [e], .cons _ _ _ _ (opnd_sound hT h1) r⟩
    · cases h

theorem places_sound : ∀ {fs : List Field} {pl : List (Nat × Nat)}, placesA P fs = some pl → ∀ w : World, (fs.mapM (fun f => do pure (f.offset, ← sizeOf f.type) : Field → Sem (Nat × Nat))).run P w = .ok pl w
  | [], pl, h, w => by cases h; simp
  | f :: fs, pl, h, w => by
    simp only [placesA] at h
    split at h
    · rename_i s l h1 h2
      cases h
      have ih := places_sound h2 w
      simp only [List.mapM_cons, Sem.run_bind, run_size h1, Result.andThen_ok, Sem.run_pure, ih]
    · cases h

theorem fits_build_struct (hR : Rel β H w) (hT : TRel H.n β m a.tmps) {t : TypeId} {parts : Array (Nat × Operand)} {z : AV} {ps : List (Nat × AV)} {fields : Array Field} {pl : List (Nat × Nat)} {cs : List AV} (ho : o.op = .build t parts)
    (hz : zero? P t = some z) (hp : partsA m parts.toList = some ps) (hu : P.underlying t = some (.struct fields)) (hpl : placesA P fields.toList = some pl) (h : fillA (fun i => pl[i]?) z.cells ps = some cs) : Fits P o a β H w (.agg cs) H := by
  obtain ⟨c, hc, hzc⟩ := zero_sound (N := H.n) (β := β) hz w
  obtain ⟨e1, e2⟩ := partsA_sound hT hp
  obtain ⟨ds, hd, hr⟩ := fill_sound ps _ z.cells cs c.cells h e1 e2 hzc.cells
  refine Fits.same hR (c := .agg ds) ?_ (.agg _ _ hr)
  simp only [execOp, ho]
  refine run_v ?_
  have hm : (fields.mapM (fun f => do pure (f.offset, ← sizeOf f.type) : Field → Sem (Nat × Nat))).run P w = .ok pl.toArray w := by
    rw [Array.mapM_eq_mapM_toList, Sem.run_map, places_sound hpl w]
    rfl
  have hq : (fun (i : Nat) => (pl.toArray)[i]?) = fun (i : Nat) => pl[i]? := by funext i; simp
  simp only [Instr.build, Sem.run_bind, hc, Result.andThen_ok, run_underlying hu, hm, Array.toList_map, hq, hd, Sem.run_pure]

theorem fits_build_array (hR : Rel β H w) (hT : TRel H.n β m a.tmps) {t e : TypeId} {n s : Nat} {parts : Array (Nat × Operand)} {z : AV} {ps : List (Nat × AV)} {cs : List AV} (ho : o.op = .build t parts)
    (hz : zero? P t = some z) (hp : partsA m parts.toList = some ps) (hu : P.underlying t = some (.array n e)) (hs : size? P e = some s) (h : fillA (fun i => some (i * s, s)) z.cells ps = some cs) : Fits P o a β H w (.agg cs) H := by
  obtain ⟨c, hc, hzc⟩ := zero_sound (N := H.n) (β := β) hz w
  obtain ⟨e1, e2⟩ := partsA_sound hT hp
  obtain ⟨ds, hd, hr⟩ := fill_sound ps _ z.cells cs c.cells h e1 e2 hzc.cells
  refine Fits.same hR (c := .agg ds) ?_ (.agg _ _ hr)
  simp only [execOp, ho]
  refine run_v ?_
  simp only [Instr.build, Sem.run_bind, hc, Result.andThen_ok, run_underlying hu, run_size hs, Array.toList_map, hd, Sem.run_pure]
end pure_
end Go.Vm
