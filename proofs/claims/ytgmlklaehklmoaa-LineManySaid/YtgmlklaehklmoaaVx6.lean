/- Each operation of the evaluator is the machine's: loads, stores, new rows. (A help: no statement of the seat is proved here.) -/
import Derived.Test.YtgmlklaehklmoaaVx5
import Derived.Deep.AppendSrc
import Derived.Deep.Upon
set_option linter.unusedVariables false
set_option linter.unusedSimpArgs false
namespace Go.Vx
section mem
variable {P : Program} {o : Oper} {a : Act} {β : At} {H : Heap} {w : World} {m : Tm}

theorem agg_run {t : TypeId} {b : Bool} (h : isAgg? P t = some b) (w : World) : (isAgg t).run P w = .ok b w := by
  unfold isAgg? at h
  cases hu : P.underlying t with
  | none => rw [hu] at h; cases h
  | some d => rw [hu] at h; cases d <;> simp at h <;> subst h <;> simp [isAgg, run_underlying hu]

theorem place_add (b : Base) (i j : Nat) : (⟨b.blk, b.off + i, none⟩ : Addr).add j = ⟨b.blk, b.off + (i + j), none⟩ := add_add _ b i j rfl

/-- Cells of a row, read one behind another. -/
theorem cells_read {N : Nat} {cs : List AV} {ro : Bool} {b : Base} (hl : Lies N β w cs ro b) (i n : Nat) (h : i + n ≤ cs.length) :
    ∃ vs : List Value, vs.length = n ∧ (∀ j v, vs[j]? = some v → w.cell? ((⟨b.blk, b.off + i, none⟩ : Addr).add j) = some v) ∧ VsRel N β ((cs.drop i).take n) vs := by
  induction n with
  | zero => exact ⟨[], rfl, fun j v hv => by simp at hv, by simpa using .nil⟩
  | succ n ih =>
    obtain ⟨vs, hlen, hc, hr⟩ := ih (by omega)
    obtain ⟨c, hc1, hr1⟩ := hl.cell (i + n) cs[i + n] (List.getElem?_eq_getElem (by omega))
    refine ⟨vs ++ [c], by simp [hlen], fun j v hv => ?_, ?_⟩
    · rcases Nat.lt_or_ge j n with hj | hj
      · rw [List.getElem?_append_left (by omega)] at hv
        exact hc j v hv
      · have : j = n := by
          have := (List.getElem?_eq_some_iff.1 hv).1
          simp [hlen] at this
          omega
        subst this
        rw [List.getElem?_append_right (by omega)] at hv
        simp [hlen] at hv
        subst hv
        rw [place_add]
        exact hc1
    · have e : (cs.drop i).take (n + 1) = (cs.drop i).take n ++ [cs[i + n]] := by
        rw [List.take_succ_eq_append_getElem (by simp; omega)]
        simp
      rw [e]
      exact hr.append (.one hr1)

theorem loadV_sound (hR : Rel β H w) {t : TypeId} {u : Bool} {r : Ref} {v : AV} {c : Value} (hx : VRel H.n β (.ptr u (some r)) c) (h : loadV P H t r = some v) : ∃ d, (Instr.loadAt t c).run P w = .ok d w ∧ VRel H.n β v d := by
  cases hx with
  | ptr _ _ ad hg hb =>
    unfold loadV at h
    split at h
    · rename_i cs e ro hget
      obtain ⟨b, hbg⟩ := hR.tot r.g cs e ro hget
      obtain ⟨cs', e', ro', hget', hl⟩ := hR.lies r.g b hbg
      rw [hget] at hget'
      cases hget'
      obtain ⟨_, had⟩ := hb b hbg
      subst had
      split at h
      · rename_i hag
        split at h
        · rename_i s hs
          split at h
          · rename_i hle
            cases h
            obtain ⟨vs, hlen, hc, hr⟩ := cells_read hl r.i s hle
            refine ⟨.agg vs.toArray, ?_, .agg _ _ (by simpa using hr)⟩
            have hrun := run_loadCells_list (P := P) w _ vs hc
            rw [hlen] at hrun
            simp only [Instr.loadAt, Instr.sureAddr, loadVar, Sem.run_bind, Sem.run_pure, Result.andThen_ok, agg_run hag, if_true, run_size hs, hrun]
          · cases h
        · cases h
      · rename_i hag
        obtain ⟨d, hd, hr⟩ := hl.cell r.i v h
        exact ⟨d, by simp [Instr.loadAt, Instr.sureAddr, loadVar, agg_run hag, run_load, hd], hr⟩
      · cases h
    · cases h

theorem VRel.hot {N : Nat} {v : AV} {c : Value} {u : Bool} (h : VRel N β v c) : VRel N β (v.hot u) c := by
  cases h with
  | bool t b => exact .bool _ _
  | int t k n => exact .int _ _ _
  | str t s b h => exact .str _ _ _ h
  | pnil t => exact .pnil _
  | ptr t r a hg h => exact .ptr _ _ _ hg h
  | snil t z a => exact .snil _ _ _
  | slice t r n z cap a hg hn hs h => exact .slice _ _ _ _ _ _ hg hn hs h
  | vec t l cap a b o cs hn ha h h' => exact .vec t l cap a b o cs hn ha h h'
  | eptr t l e p b o cs h h' => exact .eptr t l e p b o cs h h'
  | mnil => exact .mnil
  | func f xs ys cs ds h h' => exact .func f xs ys cs ds h h'
  | nilFunc => exact .nilFunc
  | nilIface => exact .nilIface
  | agg xs cs h => exact .agg xs cs h
  | tup xs cs h => exact .tup xs cs h

theorem fits_load (hR : Rel β H w) (hT : TRel H.n β m a.tmps) {t : TypeId} {x : Operand} {u : Bool} {r : Ref} {v : AV} (ho : o.op = .load t x) (hx : opnd m x = some (.ptr u (some r))) (h : loadV P H t r = some v) : Fits P o a β H w (v.hot u) H := by
  obtain ⟨c, hc, hv⟩ := loadV_sound hR (opnd_sound hT hx) h
  refine Fits.same hR (c := c) ?_ hv.hot
  simp only [execOp, ho]
  exact run_v hc

/-- Cells that stay as they are, read one behind another. -/
theorem imm_read (hR : Rel β H w) {N : Nat} {xs : List AV} {b o : Nat} {cs : Nat → Value} (h : ∀ k v, xs[k]? = some v → β.imm b (o + k) = some (cs k)) (h' : ∀ k v, xs[k]? = some v → VRel N β v (cs k)) (i n : Nat) (hle : i + n ≤ xs.length) :
    ∃ vs : List Value, vs.length = n ∧ (∀ j v, vs[j]? = some v → w.cell? ((⟨b, o + i, none⟩ : Addr).add j) = some v) ∧ VsRel N β ((xs.drop i).take n) vs := by
  refine ⟨(List.range n).map fun j => cs (i + j), by simp, fun j v hv => ?_, ?_⟩
  · have hj : j < n := by
      have := (List.getElem?_eq_some_iff.1 hv).1
      simpa using this
    rw [List.getElem?_map, List.getElem?_range hj] at hv
    simp only [Option.map_some, Option.some.injEq] at hv
    subst hv
    have := hR.immw _ _ _ (h (i + j) xs[i + j] (List.getElem?_eq_getElem (by omega)))
    have e : (⟨b, o + i, none⟩ : Addr).add j = ⟨b, o + (i + j), none⟩ := by
      unfold Addr.add
      split
      · rename_i e; simp [e]
      · simp [Nat.add_assoc]
    rw [e]
    exact this
  · refine VsRel.of_at (by simp; omega) fun j v c hv hc => ?_
    have hj : j < n := by
      have := (List.getElem?_eq_some_iff.1 hv).1
      simp at this; omega
    rw [List.getElem?_take_of_lt hj, List.getElem?_drop] at hv
    rw [List.getElem?_map, List.getElem?_range hj] at hc
    simp only [Option.map_some, Option.some.injEq] at hc
    subst hc
    exact h' _ _ hv

theorem loadE_sound (hR : Rel β H w) {u : TypeId} {t : Ty} {l : List t.den} {e p : Nat} {v : AV} {c : Value} (hx : VRel H.n β (.eptr t l e p) c) (h : loadE P u t l e p = some v) : ∃ d, (Instr.loadAt u c).run P w = .ok d w ∧ VRel H.n β v d := by
  cases hx with
  | eptr _ _ _ _ b o cs h1 h2 =>
    unfold loadE at h
    split at h
    · rename_i s hag hs
      split at h
      · rename_i hc
        cases h
        have hle : e * t.z + p + s ≤ (encL t l).length := by
          rw [encL_length]
          have : (e + 1) * t.z ≤ l.length * t.z := Nat.mul_le_mul_right _ hc.1
          rw [Nat.add_mul] at this
          omega
        obtain ⟨vs, hlen, hcv, hr⟩ := imm_read hR h1 h2 (e * t.z + p) s hle
        refine ⟨.agg vs.toArray, ?_, .agg _ _ ?_⟩
        · have hrun := run_loadCells_list (P := P) w _ vs hcv
          rw [hlen] at hrun
          simp only [Instr.loadAt, Instr.sureAddr, loadVar, Sem.run_bind, Sem.run_pure, Result.andThen_ok, agg_run hag, if_true, run_size hs, hrun]
        · have e1 : ((enc t (l.getD e t.dflt)).drop p).take s = ((encL t l).drop (e * t.z + p)).take s := by
            rw [← encL_elem t l e hc.1, List.drop_take, List.take_take, List.drop_drop, Nat.min_eq_left (by omega)]
          rw [e1]
          simpa using hr
      · cases h
    · rename_i s hag hs
      split at h
      · rename_i hc
        have hv : (encL t l)[e * t.z + p]? = some v := by rw [encL_get t l e p hc.1 hc.2]; exact h
        refine ⟨cs (e * t.z + p), ?_, h2 _ _ hv⟩
        have := hR.immw _ _ _ (h1 _ _ hv)
        simp [Instr.loadAt, Instr.sureAddr, loadVar, agg_run hag, run_load, this]
      · cases h
    · cases h
theorem fits_load_e (hR : Rel β H w) (hT : TRel H.n β m a.tmps) {u : TypeId} {x : Operand} {t : Ty} {l : List t.den} {e p : Nat} {v : AV} (ho : o.op = .load u x) (hx : opnd m x = some (.eptr t l e p)) (h : loadE P u t l e p = some v) : Fits P o a β H w v H := by
  obtain ⟨c, hc, hv⟩ := loadE_sound hR (opnd_sound hT hx) h
  refine Fits.same hR (c := c) ?_ hv
  simp only [execOp, ho]
  exact run_v hc

theorem heap_setCells {w : World} (g : Nat) : ∀ (vs : List Value) (o i : Nat), i ≠ g → (w.setCells g o vs).heap[i]? = w.heap[i]?
  | vs, o, i, h => by
    induction vs generalizing w o with
    | nil => rfl
    | cons v vs ih =>
      show ((w.setCell ⟨g, o, none⟩ v).setCells g (o + 1) vs).heap[i]? = _
      rw [ih, Go.RowKit.Below.heap_setCell _ _ _ _ h]
theorem size_setCells {w : World} (g : Nat) : ∀ (vs : List Value) (o : Nat), (w.setCells g o vs).heap.size = w.heap.size
  | vs, o => by
    induction vs generalizing w o with
    | nil => rfl
    | cons v vs ih =>
      show ((w.setCell ⟨g, o, none⟩ v).setCells g (o + 1) vs).heap.size = _
      rw [ih]; simp
theorem tape_setCells {w : World} (g : Nat) : ∀ (vs : List Value) (o : Nat), (w.setCells g o vs).tape = w.tape
  | vs, o => by
    induction vs generalizing w o with
    | nil => rfl
    | cons v vs ih =>
      show ((w.setCell ⟨g, o, none⟩ v).setCells g (o + 1) vs).tape = _
      rw [ih]; rfl
/-- The block that is written keeps its kind and its length. -/
theorem blk_setCells {w : World} (g : Nat) : ∀ (vs : List Value) (o : Nat) {C : Array Value} {e : TypeId} {fr : Nat × Nat}, w.heap[g]? = some (.cells C e fr) → ∃ C', (w.setCells g o vs).heap[g]? = some (.cells C' e fr) ∧ C'.size = C.size
  | vs, o, C, e, fr, h => by
    induction vs generalizing w o C with
    | nil => exact ⟨C, h, rfl⟩
    | cons v vs ih =>
      have h1 : (w.setCell ⟨g, o, none⟩ v).heap[g]? = some (.cells (C.setIfInBounds o v) e fr) := by
        simp [World.setCell, Array.getElem?_modify, h]
      obtain ⟨C', h2, h3⟩ := ih (w := w.setCell ⟨g, o, none⟩ v) (o + 1) (C.setIfInBounds o v) h1
      exact ⟨C', h2, by simpa using h3⟩

theorem Free.setCells {w : World} {b : Base} (h : Free w b) (o : Nat) (vs : List Value) : Free (w.setCells b.blk o vs) b := by
  obtain ⟨⟨C, e, fr, hC, hs⟩, hf⟩ := h
  obtain ⟨C', h1, h2⟩ := blk_setCells b.blk vs o hC
  exact ⟨⟨C', e, fr, h1, by omega⟩, fun j hj => by rw [World.frozen?_setCells]; exact hf j hj⟩
theorem Free.there {w : World} {b : Base} (h : Free w b) {j : Nat} (hj : j < b.room) : (w.cell? ⟨b.blk, b.off + j, none⟩).isSome = true := by
  obtain ⟨⟨C, e, fr, hC, hs⟩, _⟩ := h
  simp [World.cell?, hC, Array.getElem?_eq_getElem (show b.off + j < C.size by omega)]

theorem one_of_plain {N : Nat} {vs : List AV} {cs : List Value} (h : VsRel N β vs cs) (hp : vs.all AV.cell = true) : ∀ u ∈ cs, u.oneCell' = true := by
  induction vs generalizing cs with
  | nil => cases h; intro u hu; cases hu
  | cons v vs ih => cases h with
    | cons _ c _ cs hv hvs =>
      simp only [List.all_cons, Bool.and_eq_true] at hp
      intro u hu
      rcases List.mem_cons.1 hu with rfl | hu
      · obtain ⟨h1, h2⟩ := hv.one hp.1
        cases u <;> simp [Value.oneCell'] at * <;> simp_all
      · exact ih hvs hp.2 u hu

/-- A row behind a write of some of its cells. -/
theorem Lies.write {N : Nat} {cs vs : List AV} {b : Base} (hl : Lies N β w cs false b) (hbn : b.nil = false) {i : Nat} {ds : List Value} (hv : VsRel N β vs ds) (hp : vs.all AV.cell = true) (hi : i + vs.length ≤ cs.length) :
    Lies N β (w.setCells b.blk (b.off + i) ds) (splice cs i vs) false b := by
  have hlen := hv.length
  have hroom := hl.room
  have hfree := hl.free rfl hbn
  constructor
  · intro j v hj
    unfold splice at hj
    by_cases h1 : j < i
    · rw [List.append_assoc, List.getElem?_append_left (by simp; omega), List.getElem?_take_of_lt h1] at hj
      obtain ⟨c, hc, hr⟩ := hl.cell j v hj
      exact ⟨c, by rw [World.cell?_setCells_out _ _ _ _ _ (fun _ _ => .inl (by simp; omega))]; exact hc, hr⟩
    · by_cases h2 : j < i + vs.length
      · rw [List.append_assoc, List.getElem?_append_right (by simp; omega), List.getElem?_append_left (by simp; omega)] at hj
        have e : j - (cs.take i).length = j - i := by simp; omega
        rw [e] at hj
        obtain ⟨c, hc, hr⟩ := hv.at (j - i) v hj
        refine ⟨c, ?_, hr⟩
        have hlt : j - i < ds.length := by omega
        have := World.cell?_setCells_in b.blk ds (b.off + i) w (fun k hk => by
          have := hfree.there (j := i + k) (by omega)
          rwa [show b.off + (i + k) = b.off + i + k from by omega] at this) (j - i) hlt
        rw [show b.off + j = b.off + i + (j - i) from by omega, this]
        rw [List.getElem?_eq_getElem hlt] at hc
        exact hc
      · have e1 : (cs.take i ++ vs).length = i + vs.length := by simp; omega
        rw [List.getElem?_append_right (by omega), e1, List.getElem?_drop] at hj
        rw [show i + vs.length + (j - (i + vs.length)) = j from by omega] at hj
        obtain ⟨c, hc, hr⟩ := hl.cell j v hj
        exact ⟨c, by rw [World.cell?_setCells_out _ _ _ _ _ (fun _ _ => .inr (by simp; omega))]; exact hc, hr⟩
  · intro j v hj
    have hm : v ∈ splice cs i vs := List.mem_of_getElem? hj
    unfold splice at hm
    simp only [List.mem_append] at hm
    rcases hm with (hm | hm) | hm
    · obtain ⟨k, hk⟩ := List.mem_iff_getElem?.1 (List.mem_of_mem_take hm); exact hl.plain k v hk
    · exact List.all_eq_true.1 hp v hm
    · obtain ⟨k, hk⟩ := List.mem_iff_getElem?.1 (List.mem_of_mem_drop hm); exact hl.plain k v hk
  · unfold splice; simp; omega
  · intro hn; rw [hbn] at hn; cases hn
  · intro _ hn; rw [hbn] at hn; cases hn
  · intro hn; rw [size_setCells]; exact hl.blk hn
  · exact fun _ _ => hfree.setCells _ _

/-- Cells that say the same. -/
def Like (vs vs' : List AV) : Prop := vs'.length = vs.length ∧ (vs.all AV.cell = true → vs'.all AV.cell = true) ∧ ∀ N (β : At) ds, VsRel N β vs ds → VsRel N β vs' ds
theorem Like.refl (vs : List AV) : Like vs vs := ⟨rfl, id, fun _ _ _ h => h⟩
theorem Like.nil : Like [] [] := Like.refl _
theorem Like.cons {v v' : AV} {vs vs' : List AV} (hc : v.cell = true → v'.cell = true) (hv : ∀ N (β : At) d, VRel N β v d → VRel N β v' d) (h : Like vs vs') : Like (v :: vs) (v' :: vs') :=
  ⟨by simp [h.1], fun ha => by
    simp only [List.all_cons, Bool.and_eq_true] at ha ⊢
    exact ⟨hc ha.1, h.2.1 ha.2⟩, fun N β ds hd => by
    cases hd with
    | cons _ d _ ds h1 h2 => exact .cons _ _ _ _ (hv N β d h1) (h.2.2 N β ds h2)⟩
theorem VsRel.part {N : Nat} {β : At} {a b : List AV} {ds : List Value} (h : VsRel N β (a ++ b) ds) : ∃ d1 d2, ds = d1 ++ d2 ∧ VsRel N β a d1 ∧ VsRel N β b d2 := by
  induction a generalizing ds with
  | nil => exact ⟨[], ds, rfl, .nil, h⟩
  | cons v vs ih =>
    cases h with
    | cons _ d _ ds h1 h2 =>
      obtain ⟨d1, d2, rfl, h3, h4⟩ := ih h2
      exact ⟨d :: d1, d2, rfl, .cons _ _ _ _ h1 h3, h4⟩
theorem Like.append {a a' b b' : List AV} (h : Like a a') (k : Like b b') : Like (a ++ b) (a' ++ b') :=
  ⟨by simp [h.1, k.1], fun ha => by
    simp only [List.all_append, Bool.and_eq_true] at ha ⊢
    exact ⟨h.2.1 ha.1, k.2.1 ha.2⟩, fun N β ds hd => by
    obtain ⟨d1, d2, rfl, h3, h4⟩ := hd.part
    exact (h.2.2 N β d1 h3).append (k.2.2 N β d2 h4)⟩

theorem splice_one (cs : List AV) (i : Nat) (v : AV) (h : i < cs.length) : splice cs i [v] = cs.set i v := by
  unfold splice
  rw [List.set_eq_take_append_cons_drop, if_pos h]
  simp
theorem Lies.like {N : Nat} {cs cs' : List AV} {ro : Bool} {b : Base} (hl : Lies N β w cs ro b) (h : Like cs cs') : Lies N β w cs' ro b where
  cell := fun j v hj => by
    obtain ⟨vs, hlen, hc, hr⟩ := cells_read hl 0 cs.length (by omega)
    rw [List.drop_zero, List.take_length] at hr
    obtain ⟨c, hc', hrc⟩ := (h.2.2 _ _ _ hr).at j v hj
    have := hc j c hc'
    rw [place_add, Nat.zero_add] at this
    exact ⟨c, this, hrc⟩
  plain := fun j v hj => by
    have : cs.all AV.cell = true := List.all_eq_true.2 fun y hy => by
      obtain ⟨k, hk⟩ := List.mem_iff_getElem?.1 hy
      exact hl.plain k y hk
    exact List.all_eq_true.1 (h.2.1 this) v (List.mem_of_getElem? hj)
  room := by rw [h.1]; exact hl.room
  nl := fun hn => by
    have := h.1
    rw [hl.nl hn] at this
    exact List.length_eq_zero_iff.1 this
  nr := hl.nr
  blk := hl.blk
  free := hl.free

/-! Cells as data say the same. -/
theorem dec_like : (t : Ty) → {l : List AV} → {x : t.den} → {rest : List AV} → dec t l = some (x, rest) → ∃ cs, l = cs ++ rest ∧ Like cs (enc t x)
  | .bool, l, x, rest, h => by
    simp only [dec] at h
    unfold decBool at h
    split at h
    · cases h
      exact ⟨[_], rfl, Like.cons (fun _ => rfl) (fun N β d hd => by rw [bool_of hd]; exact .bool _ _) Like.nil⟩
    · cases h
  | .int k, l, x, rest, h => by
    simp only [dec] at h
    unfold decInt at h
    split at h
    · split at h
      · rename_i hk
        subst hk
        cases h
        exact ⟨[_], rfl, Like.cons (fun _ => rfl) (fun N β d hd => by rw [int_of hd]; exact .int _ _ _) Like.nil⟩
      · cases h
    · cases h
  | .byte, l, x, rest, h => by
    simp only [dec] at h
    unfold decByte at h
    split at h
    · rename_i n l
      split at h
      · rename_i hc
        obtain ⟨rfl, h0, h1⟩ := hc
        cases h
        refine ⟨[_], rfl, Like.cons (fun _ => rfl) (fun N β d hd => ?_) Like.nil⟩
        rw [int_of hd]
        have : (((UInt8.ofNat n.toNat).toNat : Nat) : Int) = n := by simp; omega
        rw [this]
        exact .int _ _ _
      · cases h
    · cases h
  | .str, l, x, rest, h => by
    simp only [dec] at h
    unfold decStr at h
    split at h
    · cases h
      exact ⟨[_], rfl, Like.cons (fun _ => rfl) (fun N β d hd => by obtain ⟨b, rfl, hb⟩ := str_of hd; exact .str _ _ _ hb) Like.nil⟩
    · cases h
  | .sl t, l, x, rest, h => by
    simp only [dec] at h
    unfold decSl at h
    split at h
    · rename_i t' y l'
      split at h
      · rename_i ht
        subst ht
        cases h
        exact ⟨[_], rfl, Like.refl _⟩
      · cases h
    · split at h
      · rename_i u n z l'
        cases h
        refine ⟨[_], rfl, Like.cons (fun _ => rfl) (fun N β d hd => ?_) Like.nil⟩
        cases hd
        exact .vec t [] 0 _ 0 0 (fun _ => undef) (by simp) ⟨fun hc => by simp at hc, fun _ => rfl⟩ (fun k v hv => by simp [encL] at hv) (fun k v hv => by simp [encL] at hv)
      · cases h
    · cases h
  | .unit, l, x, rest, h => by
    simp only [dec, Option.some.injEq, Prod.mk.injEq] at h
    obtain ⟨_, rfl⟩ := h
    exact ⟨[], rfl, Like.nil⟩
  | .pair a b, l, x, rest, h => by
    simp only [dec] at h
    split at h
    · rename_i xa l' ha
      split at h
      · rename_i xb l'' hb
        simp only [Option.some.injEq, Prod.mk.injEq] at h
        obtain ⟨rfl, rfl⟩ := h
        obtain ⟨c1, rfl, k1⟩ := dec_like a ha
        obtain ⟨c2, rfl, k2⟩ := dec_like b hb
        exact ⟨c1 ++ c2, by rw [List.append_assoc], k1.append k2⟩
      · cases h
    · cases h
theorem dec1_like {t : Ty} {l : List AV} {x : t.den} (h : dec1 t l = some x) : Like l (enc t x) := by
  unfold dec1 at h
  split at h
  · rename_i y hy
    cases h
    obtain ⟨cs, rfl, k⟩ := dec_like t hy
    rwa [List.append_nil]
  · cases h
theorem decN_like {t : Ty} : {n : Nat} → {l : List AV} → {xs : List t.den} → decN t n l = some xs → Like l (encL t xs)
  | 0, [], xs, h => by simp only [decN, Option.some.injEq] at h; subst h; exact Like.nil
  | 0, _ :: _, xs, h => by simp only [decN] at h; cases h
  | n + 1, l, xs, h => by
    simp only [decN] at h
    split at h
    · rename_i x l' hx
      obtain ⟨ys, hy, rfl⟩ : ∃ ys, decN t n l' = some ys ∧ x :: ys = xs := by
        cases hd : decN t n l' with
        | none => rw [hd] at h; cases h
        | some ys => rw [hd] at h; cases h; exact ⟨ys, rfl, rfl⟩
      obtain ⟨cs, rfl, k⟩ := dec_like t hx
      have : encL t (x :: ys) = enc t x ++ encL t ys := by simp [encL]
      rw [this]
      exact k.append (decN_like hy)
    · cases h
theorem decL_like {t : Ty} {l : List AV} {xs : List t.den} (h : decL t l = some xs) : Like l (encL t xs) ∧ t.z ≠ 0 := by
  unfold decL at h
  split at h
  · cases h
  · rename_i hz; exact ⟨decN_like h, hz⟩
theorem splice_mid (A B C vs : List AV) (o : Nat) (h : o + vs.length ≤ B.length) : splice (A ++ B ++ C) (A.length + o) vs = A ++ splice B o vs ++ C := by
  unfold splice
  have e1 : (A ++ B ++ C).take (A.length + o) = A ++ B.take o := by
    rw [List.append_assoc, List.take_append, List.take_of_length_le (by omega), Nat.add_sub_cancel_left, List.take_append_of_le_length (by omega)]
  have e2 : (A ++ B ++ C).drop (A.length + o + vs.length) = B.drop (o + vs.length) ++ C := by
    rw [List.append_assoc, List.drop_append, List.drop_eq_nil_of_le (by omega), List.nil_append, show A.length + o + vs.length - A.length = o + vs.length from by omega, List.drop_append_of_le_length (by omega)]
  rw [e1, e2]
  simp
theorem put_row {o : AObj} {cs : List AV} {e : TypeId} (ho : o.row = some (cs, e, false)) (r : Ref) (vs : List AV) (hle : r.i + vs.length ≤ cs.length) :
    ∃ L, (o.put cs e r vs).row = some (L, e, false) ∧ Like (splice cs r.i vs) L := by
  unfold AObj.put
  split
  · rename_i t l e' ro
    simp only [AObj.row, Option.some.injEq, Prod.mk.injEq] at ho
    obtain ⟨rfl, rfl, rfl⟩ := ho
    split
    · rename_i hc
      obtain ⟨hz, he, hov⟩ := hc
      split
      · rename_i x hx
        refine ⟨_, rfl, ?_⟩
        have hl := dec1_like hx
        have e0 : l.set r.e x = l.take r.e ++ [x] ++ l.drop (r.e + 1) := by rw [List.set_eq_take_append_cons_drop, if_pos he]; simp
        have e1 : l = l.take r.e ++ [l.getD r.e t.dflt] ++ l.drop (r.e + 1) := by
          rw [List.getD_eq_getElem?_getD, List.getElem?_eq_getElem he]
          simp
        have e2 : encL t l = encL t (l.take r.e) ++ enc t (l.getD r.e t.dflt) ++ encL t (l.drop (r.e + 1)) := by
          conv => lhs; rw [e1]
          simp [encL]
        have e3 : encL t (l.set r.e x) = encL t (l.take r.e) ++ enc t x ++ encL t (l.drop (r.e + 1)) := by rw [e0]; simp [encL]
        have e4 : (encL t (l.take r.e)).length = r.e * t.z := by rw [encL_length, List.length_take, Nat.min_eq_left (by omega)]
        have e5 : r.i = (encL t (l.take r.e)).length + r.o := by rw [e4]; unfold Ref.i; rw [hz]
        rw [e2, e3, e5, splice_mid _ _ _ _ _ (by rw [enc_length]; exact hov)]
        exact ((Like.refl _).append hl).append (Like.refl _)
      · exact ⟨_, rfl, Like.refl _⟩
    · exact ⟨_, rfl, Like.refl _⟩
  · exact ⟨_, rfl, Like.refl _⟩

theorem fits_store (hR : Rel β H w) (hT : TRel H.n β m a.tmps) {t : TypeId} {x y : Operand} {u : Bool} {r : Ref} {v : AV} {H' : Heap} (ho : o.op = .store t x y) (hx : opnd m x = some (.ptr u (some r))) (hy : opnd m y = some v) (h : storeV P H t r v = some H') :
    Fits P o a β H w (.tup []) H' := by
  have hp := opnd_sound hT hx
  have hv := opnd_sound hT hy
  obtain ⟨ob, cs, e, s, hgo, hrow, hs, hlen, hle, hall, rfl⟩ : ∃ ob cs e s, H.get r.g = some ob ∧ ob.row = some (cs, e, false) ∧ size? P t = some s ∧ v.cells.length = s ∧ r.i + s ≤ cs.length ∧ v.cells.all AV.cell = true ∧ H' = H.set r.g (ob.put cs e r v.cells) := by
    unfold storeV at h
    split at h
    · rename_i ob hgo
      split at h
      · rename_i cs e hrow
        split at h
        · rename_i s hs
          split at h
          · rename_i hc
            cases h
            exact ⟨_, _, _, _, hgo, hrow, hs, hc.1, hc.2.1, hc.2.2, rfl⟩
          · cases h
        · cases h
      · cases h
    · cases h
  have hget : H.row r.g = some (cs, e, false) := by unfold Heap.row; rw [hgo]; exact hrow
  obtain ⟨L, hput, hlike⟩ := put_row hrow r v.cells (by omega)
  cases hq : a.eval x <;> rw [hq] at hp <;> cases hp
  rename_i ad hg hb
  obtain ⟨b, hbg⟩ := hR.tot r.g cs e false hget
  obtain ⟨cs', e', ro', hget', hl⟩ := hR.lies r.g b hbg
  rw [hget] at hget'
  cases hget'
  obtain ⟨hbn, had⟩ := hb b hbg
  subst had
  have hvc := hv.cells
  have hl1 := hvc.length
  simp only [Array.length_toList] at hl1
  have hone := one_of_plain hvc hall
  have hfree := hl.free rfl hbn
  have hroom := hl.room
  have hrun := run_storeCells_cells (P := P) b.blk (b.off + r.i) (a.eval y).cells.toList 0 w
    (fun j hj => by
      have := hfree.there (j := r.i + j) (by simp at hj; omega)
      rwa [show b.off + (r.i + j) = b.off + r.i + 0 + j from by omega] at this)
    (fun j hj => by
      have := hfree.2 (r.i + j) (by simp at hj; omega)
      rwa [show b.off + (r.i + j) = b.off + r.i + 0 + j from by omega] at this) hone
  refine ⟨β, w.setCells b.blk (b.off + r.i) (a.eval y).cells.toList, hR.write hbg hget hbn (fun k hk => heap_setCells _ _ _ _ hk) hput ((hl.write hbn hvc hall (by omega)).like hlike),
    Le.write _ hbg hget hbn (World.os_setCells ..) (tape_setCells ..) (World.output_setCells ..) (size_setCells ..) (fun k hk => heap_setCells _ _ _ _ hk), .inr ⟨?_, rfl⟩⟩
  have hsz : ¬ ((a.eval y).cells.size ≠ s) := by omega
  simp only [execOp, ho, Instr.storeAt, hq, Instr.sureAddr, storeVar, Sem.run_bind, Sem.run_pure, Result.andThen_ok, run_size hs, hsz, if_false, hrun, Nat.add_zero]
end mem
end Go.Vx
