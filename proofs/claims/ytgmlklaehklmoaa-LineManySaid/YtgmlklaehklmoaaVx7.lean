/- Each operation of the evaluator is the machine's: new rows, append. (A help: no statement of the seat is proved here.) -/
import Derived.Test.YtgmlklaehklmoaaVxS
import Derived.Lib.ConvBytes
import Derived.Laws.BytesArg
import Derived.Laws.MakeOwn
set_option linter.unusedVariables false
set_option linter.unusedSimpArgs false
namespace Go.Vx
section mem
variable {P : Program} {o : Oper} {a : Act} {β : At} {H : Heap} {w : World} {m : Tm}

/-- A new block, as a row of its own. -/
theorem Lies.new {N : Nat} {w' : World} {C : Array Value} {e : TypeId} {fr : Nat × Nat} {cs : List AV} (hv : VsRel N β cs (C.toList.take cs.length)) (hp : cs.all AV.cell = true) (hle : cs.length ≤ C.size)
    (k : Nat) (hb : w'.heap[k]? = some (.cells C e fr)) (hfr : ∀ j, j < C.size → ¬ (fr.1 ≤ j ∧ j < fr.2)) : Lies N β w' cs false ⟨k, 0, C.size, false⟩ where
  cell := fun j v hj => by
    obtain ⟨c, hc, hr⟩ := hv.at j v hj
    have hj' : j < cs.length := (List.getElem?_eq_some_iff.1 hj).1
    rw [List.getElem?_take_of_lt hj'] at hc
    exact ⟨c, by simp [World.cell?, hb]; simpa using hc, hr⟩
  plain := fun j v hj => List.all_eq_true.1 hp v (List.mem_of_getElem? hj)
  room := hle
  nl := fun hn => by cases hn
  nr := fun _ hn => by cases hn
  blk := fun _ => (Array.getElem?_eq_some_iff.1 hb).1
  free := fun _ _ => ⟨⟨C, e, fr, hb, by simp⟩, fun j hj => by
    have := hfr j hj
    obtain ⟨lo, hi⟩ := fr
    simp only [World.frozen?, hb, Nat.zero_add]
    simp at this ⊢
    exact this⟩

theorem heap_alloc_lt (w : World) (ob : Obj) (k : Nat) (hk : k < w.heap.size) : (w.alloc ob).heap[k]? = w.heap[k]? := Go.RowKit.Below.heap_alloc w ob k hk
theorem heap_alloc_at (w : World) (ob : Obj) : (w.alloc ob).heap[w.heap.size]? = some ob := by
  show (w.heap.push ob)[w.heap.size]? = _
  simp

/-- The state behind a new row. -/
theorem new_row (hR : Rel β H w) {w0 : World} (h0 : w0 = w ∨ w0 = w.drew) {C : Array Value} {e e' : TypeId} {cs : List AV} {ob : AObj} (hob : ob.row = some (cs, e', false)) (hv : VsRel H.n β cs (C.toList.take cs.length)) (hp : cs.all AV.cell = true) (hle : cs.length ≤ C.size) :
    Rel (put β H.n (some ⟨w.heap.size, 0, C.size, false⟩)) (H.push ob) (w0.alloc (.cells C e)) ∧ Le β H w (put β H.n (some ⟨w.heap.size, 0, C.size, false⟩)) (H.push ob) (w0.alloc (.cells C e)) := by
  have hs : w0.heap = w.heap := by rcases h0 with rfl | rfl <;> rfl
  have hat : (w0.alloc (.cells C e)).heap[w.heap.size]? = some (.cells C e) := by rw [← hs]; exact heap_alloc_at w0 _
  have hlt : ∀ k, k < w.heap.size → (w0.alloc (.cells C e)).heap[k]? = w.heap[k]? := fun k hk => by rw [heap_alloc_lt w0 _ k (by rw [hs]; exact hk), hs]
  constructor
  · refine hR.push ⟨w.heap.size, 0, C.size, false⟩ hob (fun g b' hb hn => ?_) (fun p c hc => ?_) (fun k hk _ => hlt k hk) ?_
    · have := hR.blk_lt hb hn; simp; omega
    · have := hR.imm_lt hc; simp at this
    · exact Lies.new (hv.mono (by omega) (Keeps.new _ _ _)) hp hle _ hat (by simp)
  · refine Le.alloc hR ?_ ?_ ?_ ?_ hlt _ (Nat.le_refl _) ob
    · rcases h0 with rfl | rfl <;> rfl
    · rcases h0 with rfl | rfl <;> rfl
    · rcases h0 with rfl | rfl <;> rfl
    · rw [World.size_alloc, hs]; omega

theorem ptr_new {N : Nat} {k : Nat} {C : Nat} {t : Bool} : VRel (N + 1) (put β N (some ⟨k, 0, C, false⟩)) (.ptr t (some ⟨N, 0, 0, 0⟩)) (.pointer (some ⟨k, 0, none⟩)) :=
  .ptr _ _ _ (by simp) fun b hb => by
    rw [put_same] at hb
    cases hb
    exact ⟨rfl, rfl⟩
theorem slice_new {t : Bool} {N k C n sz cap : Nat} (hn : n ≤ cap) (hc : cap * sz ≤ C) : VRel (N + 1) (put β N (some ⟨k, 0, C, false⟩)) (.slice t (some ⟨N, 0, sz, 0⟩) n sz) (.slice (some ⟨k, 0, none⟩) n cap) :=
  .slice _ _ _ _ _ _ (by simp) hn (by simp) fun b hb => by
    rw [put_same] at hb
    cases hb
    exact ⟨fun h => (by cases h), fun _ => ⟨fun _ => by simp [Ref.i], by simpa [Ref.i] using hc⟩⟩

theorem all_take {cs : List AV} {C : Array Value} {N : Nat} (h : VsRel N β cs C.toList) : VsRel N β cs (C.toList.take cs.length) ∧ cs.length ≤ C.size := by
  have hl := h.length
  simp only [Array.length_toList] at hl
  rw [List.take_of_length_le (by simp; omega)]
  exact ⟨h, by omega⟩

theorem fits_alloc (hR : Rel β H w) {t : TypeId} {z : AV} (ho : o.op = .alloc t) (hz : zero? P t = some z) (hp : z.cells.all AV.cell = true) : Fits P o a β H w (.ptr false (some ⟨H.n, 0, 0, 0⟩)) (H.push (.cells z.cells t false)) := by
  obtain ⟨c, hc, hv⟩ := zero_sound (N := H.n) (β := β) hz w
  obtain ⟨h1, h2⟩ := all_take hv.cells
  obtain ⟨hr, hle⟩ := new_row hR (.inl rfl) (e := t) (ob := .cells z.cells t false) rfl h1 hp h2
  refine ⟨_, _, hr, hle, .inl ⟨_, ?_, ptr_new⟩⟩
  simp only [execOp, ho]
  refine run_v ?_
  simp [Instr.alloc, hc, newVar, newRow]
theorem fits_box (hR : Rel β H w) (hT : TRel H.n β m a.tmps) {t : TypeId} {x : Operand} {v : AV} (ho : o.op = .box t x) (hx : opnd m x = some v) (hp : v.cells.all AV.cell = true) : Fits P o a β H w (.ptr false (some ⟨H.n, 0, 0, 0⟩)) (H.push (.cells v.cells t false)) := by
  have hv := opnd_sound hT hx
  obtain ⟨h1, h2⟩ := all_take hv.cells
  obtain ⟨hr, hle⟩ := new_row hR (.inl rfl) (e := t) (ob := .cells v.cells t false) rfl h1 hp h2
  refine ⟨_, _, hr, hle, .inl ⟨_, ?_, ptr_new⟩⟩
  simp only [execOp, ho]
  refine run_v ?_
  simp [Instr.box, newVar, newRow]

/-- Zero cells, many times. -/
theorem zeros_at (z : List AV) (s : Nat) (hs : z.length = s) (h0 : s ≠ 0) : ∀ (n j : Nat), j < n * s → (zerosA z n)[j]? = z[j % s]?
  | 0, j, h => by simp at h
  | n + 1, j, h => by
    unfold zerosA
    by_cases hj : j < s
    · rw [List.getElem?_append_left (by omega), Nat.mod_eq_of_lt hj]
    · rw [List.getElem?_append_right (by omega), hs, zeros_at z s hs h0 n (j - s) (by rw [Nat.add_mul, Nat.one_mul] at h; omega)]
      congr 1
      have : j = (j - s) + s := by omega
      conv => rhs; rw [this]
      rw [Nat.add_mod_right]
theorem zeros_length (z : List AV) : ∀ n, (zerosA z n).length = n * z.length
  | 0 => by simp [zerosA]
  | n + 1 => by simp [zerosA, zeros_length z n, Nat.add_mul]; omega
theorem zeros_sound {N : Nat} {z : List AV} {C : Array Value} (h : VsRel N β z C.toList) (h0 : z.length ≠ 0) (n k : Nat) (hk : n * z.length ≤ k) : VsRel N β (zerosA z n) ((madeCells C k).toList.take (zerosA z n).length) := by
  have hl := h.length
  simp only [Array.length_toList] at hl
  refine VsRel.of_at ?_ fun j v c hv hc => ?_
  · simp only [List.length_take, Array.length_toList, size_madeCells, zeros_length]; omega
  · have hj : j < (zerosA z n).length := (List.getElem?_eq_some_iff.1 hv).1
    rw [List.getElem?_take_of_lt hj] at hc
    rw [zeros_length] at hj
    rw [zeros_at z z.length rfl h0 n j hj] at hv
    obtain ⟨d, hd, hr⟩ := h.at _ v hv
    have hm : j % z.length < C.size := by rw [← hl]; exact Nat.mod_lt _ (by omega)
    have : c = d := by
      simp only [madeCells, Array.getElem?_toList] at hc
      simp only [Array.getElem?_map, Array.getElem?_range] at hc
      rw [if_pos (show j < k from by omega)] at hc
      simp only [Option.map_some, Option.some.injEq] at hc
      rw [← hl] at hc
      rw [getElem!_pos C (j % z.length) hm] at hc
      rw [Array.getElem?_toList, Array.getElem?_eq_getElem hm] at hd
      simp only [Option.some.injEq] at hd
      rw [← hc, ← hd]
    rw [this]
    exact hr
theorem zeros_all {z : List AV} (h : z.all AV.cell = true) : ∀ n, (zerosA z n).all AV.cell = true
  | 0 => rfl
  | n + 1 => by simp only [zerosA, List.all_append, h, zeros_all h n, Bool.and_true]

theorem elem_of {t e : TypeId} (h : sliceElem P t = some e) : P.underlying t = some (.slice e) := by
  unfold sliceElem at h
  split at h
  · rename_i e' hu; cases h; exact hu
  · cases h

theorem fits_makeSlice (hR : Rel β H w) (hT : TRel H.n β m a.tmps) {t : TypeId} {x y : Operand} {p q v : AV} {H' : Heap} (ho : o.op = .makeSlice t x y) (hx : opnd m x = some p) (hy : opnd m y = some q) (h : makeSliceA P t p q H = some (v, H')) : Fits P o a β H w v H' := by
  unfold makeSliceA at h
  split at h
  · rename_i e tl l tc c he
    split at h
    · rename_i sz by_ z hs hby hz
      split at h
      · rename_i hc
        cases h
        obtain ⟨h0, hzl, hl0, hlc, hb, hc2, hall⟩ := hc
        have hu := elem_of he
        have ex : a.eval x = .int .i64 l := int_of (opnd_sound hT hx)
        have ey : a.eval y = .int .i64 c := int_of (opnd_sound hT hy)
        unfold zero? at hz
        unfold size? at hs
        unfold bytes? at hby
        cases hi : P.info? e with
        | none => rw [hi] at hs; cases hs
        | some i =>
          rw [hi] at hz hs hby
          simp only [Option.map_some, Option.some.injEq, Option.bind_some] at hz hs hby
          cases hzz : i.zero with
          | none => rw [hzz] at hz; cases hz
          | some zc =>
            rw [hzz] at hz
            have hzv : VRel H.n β z zc := ofConst_sound hz
            have hrun := run_make (P := P) w t e i zc hu hi hzz .i64 .i64 l c hl0 hlc (by rw [hby, Int.mul_comm]; omega) (by omega)
            have hk : l.toNat * z.cells.length ≤ c.toNat * i.size := by rw [hzl, hs]; exact Nat.mul_le_mul_right _ (by omega)
            have hv := zeros_sound hzv.cells (by omega) l.toNat (c.toNat * i.size) hk
            have hlen : (zerosA z.cells l.toNat).length ≤ (madeCells zc.cells (c.toNat * i.size)).size := by rw [zeros_length, size_madeCells]; exact hk
            obtain ⟨hr, hle⟩ := new_row hR (.inl rfl) (e := e) (ob := .cells (zerosA z.cells l.toNat) e false) rfl hv (zeros_all hall _) hlen
            refine ⟨_, _, hr, hle, .inl ⟨_, ?_, slice_new (n := l.toNat) (cap := c.toNat) (by omega) (by rw [size_madeCells, hs]; exact Nat.le_refl _)⟩⟩
            simp only [execOp, ho, ex, ey]
            exact run_v hrun
      · cases h
    · cases h
  · cases h

theorem fits_buildSlice (hR : Rel β H w) (hT : TRel H.n β m a.tmps) {t e : TypeId} {n s : Nat} {parts : Array (Nat × Operand)} {z : AV} {ps : List (Nat × AV)} {cs : List AV} (ho : o.op = .buildSlice t n parts)
    (he : sliceElem P t = some e) (hp : partsA m parts.toList = some ps) (hs : size? P e = some s) (hz : zero? P e = some z) (h0 : s ≠ 0) (hn : n * s ≤ 16777216) (hzl : z.cells.length = s)
    (h : fillA (fun i => some (i * s, s)) (zerosA z.cells n) ps = some cs) (hall : cs.all AV.cell = true) (hcl : cs.length = n * s) : Fits P o a β H w (.slice false (some ⟨H.n, 0, s, 0⟩) n s) (H.push (.cells cs e false)) := by
  have hu := elem_of he
  obtain ⟨c, hc, hzc⟩ := zero_sound (N := H.n) (β := β) hz w
  obtain ⟨e1, e2⟩ := partsA_sound hT hp
  have hk : n * z.cells.length ≤ n * s := by rw [hzl]; exact Nat.le_refl _
  have hzs := zeros_sound hzc.cells (by omega) n (n * s) hk
  have hsz : (zerosA z.cells n).length = n * s := by rw [zeros_length, hzl]
  have hzs' : VsRel H.n β (zerosA z.cells n) (madeCells c.cells (n * s)).toList := by
    rw [List.take_of_length_le (by rw [hsz, Array.length_toList, size_madeCells]; exact Nat.le_refl _)] at hzs
    exact hzs
  obtain ⟨ds, hd, hr⟩ := fill_sound ps _ (zerosA z.cells n) cs (madeCells c.cells (n * s)) h e1 e2 hzs'
  obtain ⟨h1, h2⟩ := all_take hr
  obtain ⟨hrel, hle⟩ := new_row hR (.inl rfl) (e := e) (ob := .cells cs e false) rfl h1 hall h2
  have hdl := hr.length
  simp only [Array.length_toList] at hdl
  refine ⟨_, _, hrel, hle, .inl ⟨_, ?_, slice_new (Nat.le_refl _) (by omega)⟩⟩
  simp only [execOp, ho]
  refine run_v ?_
  have hlim : ¬ (n * s > 2 ^ 24) := by omega
  simp only [Instr.buildSlice, Sem.run_bind, run_underlying hu, Result.andThen_ok, run_size hs, if_neg hlim]
  by_cases hz0 : n * s = 0
  · have hm : ∀ z : Array Value, (Array.range (n * s)).map (z[· % z.size]!) = #[] := by intro z; rw [hz0]; simp
    have hm' : madeCells c.cells (n * s) = #[] := hm c.cells
    rw [hm'] at hd
    simp only [if_pos hz0, Sem.run_pure, Result.andThen_ok, hm, Array.toList_map, hd]
    simp [newRow]
  · simp only [if_neg hz0, Sem.run_bind, hc, Result.andThen_ok, Sem.run_pure]
    have hm : (Array.range (n * s)).map (c.cells[· % c.cells.size]!) = madeCells c.cells (n * s) := rfl
    simp only [hm, Array.toList_map, hd]
    simp [newRow]
end mem
end Go.Vx
