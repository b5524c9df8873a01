/- Patterns of values and rows: what a match says of the rows; the view of a state. (A help: no statement of the seat is proved here.) -/
import Derived.Test.YtgmlklaehklmoaaVxI
set_option linter.unusedVariables false
set_option linter.unusedSimpArgs false
namespace Go.Vx
section mat
variable {H : Heap} {β : At} {w : World}

theorem Lies.data {N N' : Nat} {β' : At} {cs : List AV} {ro ro' : Bool} {b : Base} (h : Lies N β w cs ro' b) (hd : cs.all AV.data = true) (hi : ∀ b o c, β.imm b o = some c → β'.imm b o = some c) (hr : ro = false → ro' = false) : Lies N' β' w cs ro b where
  cell := fun j v hv => by
    obtain ⟨c, hc, h1⟩ := h.cell j v hv
    exact ⟨c, hc, h1.data hi (List.all_eq_true.1 hd v (List.mem_of_getElem? hv))⟩
  plain := h.plain
  room := h.room
  nl := h.nl
  nr := fun e => h.nr (hr e)
  blk := h.blk
  free := fun e => h.free (hr e)
theorem Lies.window {N : Nat} {cs : List AV} {ro : Bool} {b : Base} (h : Lies N β w cs ro b) (i m : Nat) (hle : i + m ≤ cs.length) : Lies N β w ((cs.drop i).take m) true (b.shift i) where
  cell := fun j v hv => by
    have hj : j < m := by
      have := (List.getElem?_eq_some_iff.1 hv).1
      simp at this; omega
    rw [List.getElem?_take_of_lt hj, List.getElem?_drop] at hv
    obtain ⟨c, hc, h1⟩ := h.cell (i + j) v hv
    have hn : ¬ b.nil = true := fun e => by rw [h.nl e] at hv; simp at hv
    refine ⟨c, ?_, h1⟩
    unfold Base.shift
    rw [if_neg hn]
    rwa [← Nat.add_assoc] at hc
  plain := fun j v hv => by
    have hj : j < m := by
      have := (List.getElem?_eq_some_iff.1 hv).1
      simp at this; omega
    rw [List.getElem?_take_of_lt hj, List.getElem?_drop] at hv
    exact h.plain _ v hv
  room := by
    have h1 := h.room
    unfold Base.shift
    by_cases hn : b.nil = true
    · rw [if_pos hn]
      rw [h.nl hn] at hle ⊢
      simp
    · rw [if_neg hn]
      simp; omega
  nl := fun hn => by
    rw [Base.shift_nil] at hn
    rw [h.nl hn]
    simp
  nr := fun e => by cases e
  blk := fun hn => by
    rw [Base.shift_nil] at hn
    rw [Base.shift_blk]
    exact h.blk hn
  free := fun e => by cases e
theorem Lies.empty {N : Nat} {ro : Bool} {room : Nat} (h : ro = false → room = 0) : Lies N β w [] ro (nilBase room) where
  cell := fun j v hv => by simp at hv
  plain := fun j v hv => by simp at hv
  room := by simp
  nl := fun _ => rfl
  nr := fun e _ => h e
  blk := fun hn => by cases hn
  free := fun _ hn => by cases hn

/-- Whose a row's block is. -/
def Whose (H : Heap) (β : At) (s : Src) (bs : Base) : Prop :=
  bs.nil = true ∨ (∃ g b, Src.row? (some s) = some g ∧ β g = some b ∧ b.nil = false ∧ bs.blk = b.blk) ∨ ∃ o c, β.imm bs.blk o = some c
def Mine (H : Heap) (β : At) (s : Src) (bs : Base) : Prop :=
  (s = .nil ∧ bs.nil = true) ∨ ∃ g cs e, Src.row? (some s) = some g ∧ β g = some bs ∧ H.row g = some (cs, e, false)

theorem encL_take_drop (t : Ty) (L : List t.den) (e n : Nat) : encL t ((L.drop e).take n) = ((encL t L).drop (e * t.z)).take (n * t.z) := by rw [encL_take, encL_drop]

theorem matVec_sound (hR : Rel β H w) {t : Ty} {ro : Bool} {s : Src} {l : List t.den} {b : Option Base} (h : matVec H t ro s = some l) (hs : SrcOk H.n β s b) :
    ∃ bs, b = some bs ∧ (∀ (β1 : At) n1, (∀ b o c, β.imm b o = some c → β1.imm b o = some c) → Lies n1 β1 w (encL t l) ro bs) ∧ Whose H β s bs ∧ (ro = false → Mine H β s bs) ∧ LenOk H s l.length := by
  unfold matVec at h
  split at h
  · rename_i g
    split at h
    · rename_i t' L e' ro' hg
      split at h
      · rename_i ht
        subst ht
        split at h
        · rename_i hro
          cases h
          have hrow : H.row g = some (encL t' L, e', ro') := by unfold Heap.row; rw [hg]; rfl
          obtain ⟨bs, hb⟩ := hR.tot _ _ _ _ hrow
          obtain ⟨cs1, e1, ro1, hrow1, hl⟩ := hR.lies _ _ hb
          rw [hrow] at hrow1
          cases hrow1
          have hs : b = β g := hs
          refine ⟨bs, by rw [hs, hb], fun β1 n1 hi => hl.data (encL_data _ _) hi hro, ?_, fun e => .inr ⟨g, _, _, rfl, hb, by rw [hro e] at hrow; exact hrow⟩, ?_⟩
          · cases hn : bs.nil with
            | true => exact .inl hn
            | false => exact .inr (.inl ⟨g, bs, rfl, hb, hn, rfl⟩)
          · intro z n hzn
            unfold rowLen at hzn
            rw [hg] at hzn
            simp only at hzn
            split at hzn
            · cases hzn; rfl
            · cases hzn
        · cases h
      · cases h
    · cases h
  · rename_i g e n z
    split at h
    · rename_i hz
      obtain ⟨hz, hz0⟩ := hz
      subst hz
      have hsb : b = (β g).map fun b => b.shift (e * t.z) := hs.1
      split at h
      · rename_i t' L e' ro' hg
        split at h
        · rename_i ht
          subst ht
          have hrow : H.row g = some (encL t' L, e', ro') := by unfold Heap.row; rw [hg]; rfl
          obtain ⟨bs, hb⟩ := hR.tot _ _ _ _ hrow
          obtain ⟨cs1, e1, ro1, hrow1, hl⟩ := hR.lies _ _ hb
          rw [hrow] at hrow1
          cases hrow1
          split at h
          · split at h
            · rename_i hle
              cases h
              refine ⟨bs.shift (e * t'.z), by rw [hsb, hb]; rfl, fun β1 n1 hi => ?_, ?_, fun e => (by cases e), ?_⟩
              · have h1 := hl.window (e * t'.z) (n * t'.z) (by rw [encL_length, ← Nat.add_mul]; exact Nat.mul_le_mul_right _ hle)
                rw [← encL_take_drop] at h1
                exact h1.data (encL_data _ _) hi (fun h => h)
              · cases hn : bs.nil with
                | true => exact .inl (by rw [Base.shift_nil]; exact hn)
                | false => exact .inr (.inl ⟨g, bs, rfl, hb, hn, Base.shift_blk _ _⟩)
              · show _ = n
                simp; omega
            · cases h
          · split at h
            · rename_i hc
              obtain ⟨rfl, rfl, rfl⟩ := hc
              cases h
              refine ⟨bs, by rw [hsb, hb, Nat.zero_mul]; simp [Base.shift_zero], fun β1 n1 hi => hl.data (encL_data _ _) hi (fun h => h), ?_, fun _ => .inr ⟨g, _, _, rfl, hb, hrow⟩, rfl⟩
              cases hn : bs.nil with
              | true => exact .inl hn
              | false => exact .inr (.inl ⟨g, bs, rfl, hb, hn, rfl⟩)
            · cases h
        · cases h
      · rename_i t' L e' hg
        split at h
        · rename_i ht
          subst ht
          have hrow : H.row g = some (encL t' L, e', true) := by unfold Heap.row; rw [hg]; rfl
          obtain ⟨bs, hb⟩ := hR.tot _ _ _ _ hrow
          obtain ⟨cs1, e1, ro1, hrow1, hl⟩ := hR.lies _ _ hb
          rw [hrow] at hrow1
          cases hrow1
          split at h
          · split at h
            · rename_i hle
              cases h
              refine ⟨bs.shift (e * t'.z), by rw [hsb, hb]; rfl, fun β1 n1 hi => ?_, ?_, fun e => (by cases e), ?_⟩
              · have h1 := hl.window (e * t'.z) (n * t'.z) (by rw [encL_length, ← Nat.add_mul]; exact Nat.mul_le_mul_right _ hle)
                rw [← encL_take_drop] at h1
                exact h1.data (encL_data _ _) hi (fun h => h)
              · cases hn : bs.nil with
                | true => exact .inl (by rw [Base.shift_nil]; exact hn)
                | false => exact .inr (.inl ⟨g, bs, rfl, hb, hn, Base.shift_blk _ _⟩)
              · show _ = n
                simp; omega
            · cases h
          · cases h
        · cases h
      · rename_i cs e' ro' hg
        have hrow : H.row g = some (cs, e', ro') := by unfold Heap.row; rw [hg]; rfl
        obtain ⟨bs, hb⟩ := hR.tot _ _ _ _ hrow
        obtain ⟨cs1, e1, ro1, hrow1, hl⟩ := hR.lies _ _ hb
        rw [hrow] at hrow1
        cases hrow1
        have hlen : ∀ {cs' : List AV}, cs'.length = n * t.z → Like cs' (encL t l) → l.length = n := by
          intro cs' h1 h2
          have h3 := h2.1
          rw [encL_length, h1] at h3
          exact Nat.eq_of_mul_eq_mul_right (Nat.pos_of_ne_zero hz0) h3
        split at h
        · split at h
          · rename_i hle
            obtain ⟨hlk, _⟩ := decL_like h
            refine ⟨bs.shift (e * t.z), by rw [hsb, hb]; rfl, fun β1 n1 hi => ?_, ?_, fun e => (by cases e), ?_⟩
            · exact ((hl.window (e * t.z) (n * t.z) hle).like hlk).data (encL_data _ _) hi (fun h => h)
            · cases hn : bs.nil with
              | true => exact .inl (by rw [Base.shift_nil]; exact hn)
              | false => exact .inr (.inl ⟨g, bs, rfl, hb, hn, Base.shift_blk _ _⟩)
            · exact hlen (by simp; omega) hlk
          · cases h
        · split at h
          · rename_i hc
            obtain ⟨rfl, hcl, rfl⟩ := hc
            obtain ⟨hlk, _⟩ := decL_like h
            refine ⟨bs, by rw [hsb, hb, Nat.zero_mul]; simp [Base.shift_zero], fun β1 n1 hi => (hl.like hlk).data (encL_data _ _) hi (fun h => h), ?_, fun _ => .inr ⟨g, _, _, rfl, hb, hrow⟩, hlen hcl.symm hlk⟩
            cases hn : bs.nil with
            | true => exact .inl hn
            | false => exact .inr (.inl ⟨g, bs, rfl, hb, hn, rfl⟩)
          · cases h
      · cases h
    · cases h
  · cases h
    have hs : b = some (nilBase 0) := hs
    exact ⟨nilBase 0, hs, fun β1 n1 hi => Lies.empty fun _ => rfl, .inl rfl, fun _ => .inl ⟨rfl, rfl⟩, rfl⟩
  · rename_i t' l'
    split at h
    · rename_i ht
      subst ht
      split at h
      · rename_i hc
        obtain ⟨rfl, hz0⟩ := hc
        cases h
        rcases hs with ⟨hnil, hb⟩ | ⟨hne, blk, off, room, cs, hb, hroom, hcs⟩
        · subst hnil
          refine ⟨nilBase 1, hb, fun β1 n1 hi => ?_, .inl rfl, fun e => (by cases e), rfl⟩
          exact Lies.empty fun e => by cases e
        · have hpos : 0 < (encL t' l').length := by rw [encL_length]; exact Nat.mul_pos (List.length_pos_iff.2 hne) (Nat.pos_of_ne_zero hz0)
          obtain ⟨v0, hv0⟩ : ∃ v, (encL t' l')[0]? = some v := ⟨_, List.getElem?_eq_getElem hpos⟩
          refine ⟨_, hb, fun β1 n1 hi => ?_, .inr (.inr ⟨_, _, (hcs 0 v0 hv0).1⟩), fun e => (by cases e), rfl⟩
          exact {
            cell := fun j v hv => ⟨cs j, hR.immw _ _ _ (hcs j v hv).1, (hcs j v hv).2.data hi (encL_data_at hv)⟩
            plain := fun j v hv => List.all_eq_true.1 (encL_all t' l') v (List.mem_of_getElem? hv)
            room := by rw [encL_length]; exact hroom
            nl := fun e => by cases e
            nr := fun e => by cases e
            blk := fun _ => hR.imm_lt (hcs 0 v0 hv0).1
            free := fun e => by cases e }
      · cases h
    · cases h

theorem VRel.cell_of {N : Nat} {v : AV} {c : Value} (h : VRel N β v c) (h1 : ∀ xs, c ≠ .agg xs) (h2 : ∀ xs, c ≠ .tuple xs) : v.cell = true := by
  cases h <;> first | rfl | exact absurd rfl (h1 _) | exact absurd rfl (h2 _)

theorem matR_sound (hR : Rel β H w) : (r : RP) → {i : Nat} → {ρ ρ' : Rho} → {x : r.den} → {B : Nat → Option Base} → matR H r (ρ.find i) ρ = some (x, ρ') → OkB H.n β ρ B →
    Ext ρ ρ' ∧ (ρ'.find i = ρ.find i) ∧ ∃ B' : Nat → Option Base, OkB H.n β ρ' B' ∧ (∀ g s, ρ.find g = some s → B' g = B g) ∧
      (r.dead? = false → ∃ s bs, ρ.find i = some s ∧ B' i = some bs ∧ (∀ β1 n1 len, View H β ρ' B' β1 n1 len → ∃ cs e, (encR r x len).row = some (cs, e, !r.rw) ∧ Lies n1 β1 w cs (!r.rw) bs) ∧ Whose H β s bs ∧ (r.rw = true → Mine H β s bs) ∧ LenOk H s (r.len x))
  | .dead, i, ρ, ρ', x, B, h, hB => by
    simp only [matR] at h
    cases h
    exact ⟨Ext.refl _, rfl, B, hB, fun _ _ _ => rfl, fun e => by cases e⟩
  | .vec t e ro, i, ρ, ρ', x, B, h, hB => by
    simp only [matR] at h
    split at h
    · rename_i s hf
      obtain ⟨l, hl, he⟩ := map_some h
      cases he
      obtain ⟨bs, hb, h1, h2, h3, h4⟩ := matVec_sound hR hl (hB i s hf)
      refine ⟨Ext.refl _, rfl, B, hB, fun _ _ _ => rfl, fun _ => ⟨s, bs, hf, hb, fun β1 n1 len hv => ⟨encL t x, e, by simp only [encR, AObj.row, RP.rw, Bool.not_not], ?_⟩, h2, fun e => h3 (by simpa [RP.rw] using e), h4⟩⟩
      have := h1 β1 n1 hv.imm
      simpa [RP.rw] using this
    · cases h
  | .cells p e ro, i, ρ, ρ', x, B, h, hB => by
    simp only [matR] at h
    split at h
    · rename_i g hf
      split at h
      · rename_i cs e' ro' hg
        split at h
        · rename_i hro
          split at h
          · rename_i y ρ1 hp
            cases h
            have hrow : H.row g = some (cs, e', ro') := by unfold Heap.row; rw [hg]; rfl
            obtain ⟨bs, hb⟩ := hR.tot _ _ _ _ hrow
            obtain ⟨cs1, e1, ro1, hrow1, hl⟩ := hR.lies _ _ hb
            rw [hrow] at hrow1
            cases hrow1
            obtain ⟨vs, hvl, hvc, hvr⟩ := cells_read hl 0 cs.length (by omega)
            rw [List.drop_zero, List.take_length] at hvr
            obtain ⟨ex, B', oB, kB, c1, c2, hcc, r1, f1⟩ := matV_sound hR p hp hvr hB
            cases r1
            rw [List.append_nil] at hcc
            subst hcc
            have hBi : B' i = some bs := by
              rw [kB i _ hf]
              have hs : B i = β g := hB i _ hf
              rw [hs, hb]
            refine ⟨ex, ?_, B', oB, kB, fun _ => ⟨_, bs, hf, hBi, fun β1 n1 len hv => ⟨encV p x len, e, by simp only [encR, AObj.row, RP.rw, Bool.not_not], ?_⟩, ?_, fun e => .inr ⟨g, _, _, rfl, hb, by rw [hro (by simpa [RP.rw] using e)] at hrow; exact hrow⟩, ?_⟩⟩
            · rw [hf]; exact ex _ _ hf
            · have hvs := f1 β1 n1 len hv
              have hlen := hvs.length
              have e1 : (!(RP.cells p e ro).rw) = ro := by simp [RP.rw]
              rw [e1]
              exact {
                cell := fun j v hv => by
                  obtain ⟨c, hc, hr⟩ := hvs.at j v hv
                  have := hvc j c hc
                  rw [place_add, Nat.zero_add] at this
                  exact ⟨c, this, hr⟩
                plain := fun j v hv => by
                  obtain ⟨c, hc, hr⟩ := hvs.at j v hv
                  have hj : j < vs.length := (List.getElem?_eq_some_iff.1 hc).1
                  have hj' : j < cs.length := by omega
                  obtain ⟨c', hc', hr'⟩ := hvr.at j cs[j] (List.getElem?_eq_getElem hj')
                  rw [hc] at hc'
                  cases hc'
                  obtain ⟨q1, q2⟩ := hr'.one (hl.plain j _ (List.getElem?_eq_getElem hj'))
                  exact hr.cell_of q1 q2
                room := by have := hl.room; omega
                nl := fun hn => by
                  have := hl.nl hn
                  rw [this] at hvl
                  simp only [List.length_nil] at hvl
                  exact List.length_eq_zero_iff.1 (by omega)
                nr := fun e => hl.nr (hro e)
                blk := hl.blk
                free := fun e => hl.free (hro e) }
            · cases hn : bs.nil with
              | true => exact .inl hn
              | false => exact .inr (.inl ⟨g, bs, rfl, hb, hn, rfl⟩)
            · intro z n hzn
              unfold rowLen at hzn
              rw [hg] at hzn
              cases hzn
          · cases h
        · cases h
      · cases h
    · cases h

theorem matRs_sound (hR : Rel β H w) : (rs : List RP) → {i : Nat} → {ρ ρ' : Rho} → {x : rowsDen rs} → {B : Nat → Option Base} → matRs H rs i ρ = some (x, ρ') → OkB H.n β ρ B →
    Ext ρ ρ' ∧ ∃ B' : Nat → Option Base, OkB H.n β ρ' B' ∧ (∀ g s, ρ.find g = some s → B' g = B g) ∧
      ∀ j r, rs[j]? = some r → 
        (r.dead? = false → ∃ s bs, ρ'.find (i + j) = some s ∧ B' (i + j) = some bs ∧ (∀ β1 n1 len, View H β ρ' B' β1 n1 len → ∃ cs e, ((encRs rs x len)[j]?.bind AObj.row) = some (cs, e, !r.rw) ∧ Lies n1 β1 w cs (!r.rw) bs) ∧ Whose H β s bs ∧ (r.rw = true → Mine H β s bs) ∧ LenOk H s (lens rs x j))
  | [], i, ρ, ρ', x, B, h, hB => by
    simp only [matRs] at h
    cases h
    exact ⟨Ext.refl _, B, hB, fun _ _ _ => rfl, fun j r hr => by simp at hr⟩
  | r :: rs, i, ρ, ρ', x, B, h, hB => by
    simp only [matRs] at h
    split at h
    · rename_i x1 ρ1 h1
      split at h
      · rename_i xs ρ2 h2
        cases h
        obtain ⟨e1, f1, B1, o1, k1, g1⟩ := matR_sound hR r h1 hB
        obtain ⟨e2, B2, o2, k2, g2⟩ := matRs_sound hR rs h2 o1
        refine ⟨e1.trans e2, B2, o2, fun g s hs => by rw [k2 g s (e1 g s hs), k1 g s hs], fun j r' hr' => ?_⟩
        cases j with
        | zero =>
          simp only [List.getElem?_cons_zero, Option.some.injEq] at hr'
          subst hr'
          intro hd
          obtain ⟨s, bs, hs, hb, q1, q2, q3, q4⟩ := g1 hd
          have hs1 : ρ1.find i = some s := e1 _ _ hs
          refine ⟨s, bs, by rw [Nat.add_zero]; exact e2 _ _ hs1, by rw [Nat.add_zero, k2 i s hs1]; exact hb, fun β1 n1 len hv => ?_, q2, q3, q4⟩
          obtain ⟨cs, e, hrow, hl⟩ := q1 β1 n1 len (hv.less e2 k2)
          exact ⟨cs, e, by simpa [encRs] using hrow, hl⟩
        | succ j =>
          simp only [List.getElem?_cons_succ] at hr'
          have q := g2 j r' hr'
          intro hd
          have e3 : i + (j + 1) = i + 1 + j := by omega
          rw [e3]
          obtain ⟨s, bs, hs, hb, q1, q2, q3, q4⟩ := q hd
          refine ⟨s, bs, hs, hb, fun β1 n1 len hv => ?_, q2, q3, q4⟩
          obtain ⟨cs, e, hrow, hl⟩ := q1 β1 n1 len hv
          exact ⟨cs, e, by simpa [encRs] using hrow, hl⟩
      · cases h
    · cases h
end mat
end Go.Vx
