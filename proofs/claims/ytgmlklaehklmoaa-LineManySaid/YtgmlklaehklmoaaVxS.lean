/- Rows that are frozen: what is in them is data. (A help: no statement of the seat is proved here.) -/
import Derived.Test.YtgmlklaehklmoaaVx6
set_option linter.unusedVariables false
set_option linter.unusedSimpArgs false
namespace Go.Vx

/-- The evaluator's view of memory turns, memory does not. -/
structure Melts (β : At) (H : Heap) (w : World) (β' : At) (H' : Heap) : Prop where
  base : β'.base = β.base
  keeps : Keeps H.n β β'
  rel : Rel β' H' w
  le : Le β H w β' H' w
  n : H'.n = H.n
theorem Melts.refl {β : At} {H : Heap} {w : World} (h : Rel β H w) : Melts β H w β H := ⟨rfl, Keeps.refl _ _, h, Le.refl _ _ _, rfl⟩
theorem Melts.trans {β β1 β2 : At} {H H1 H2 : Heap} {w : World} (h : Melts β H w β1 H1) (k : Melts β1 H1 w β2 H2) : Melts β H w β2 H2 :=
  ⟨k.base.trans h.base, h.keeps.trans (by rw [← h.n]; exact k.keeps) (Nat.le_refl _), k.rel, h.le.trans k.le, k.n.trans h.n⟩

theorem Rel.freeze {β : At} {H : Heap} {w : World} (h : Rel β H w) {g : Nat} {cs : List AV} {e0 : TypeId} (hrow : H.row g = some (cs, e0, false)) (t : Ty) (l : List t.den) (e : TypeId)
    (hlen : (encL t l).length = cs.length) (hcs : ∀ b, β g = some b → ∀ (j : Nat) (v : AV), (encL t l)[j]? = some v → ∃ c, w.cell? ⟨b.blk, b.off + j, none⟩ = some c ∧ VRel H.n β v c) :
    ∃ β', Melts β H w β' (H.set g (.fro t l e)) := by
  obtain ⟨b, hb⟩ := h.tot _ _ _ _ hrow
  obtain ⟨cs1, e1, ro1, hr1, hlies⟩ := h.lies g b hb
  rw [hrow] at hr1
  cases hr1
  let imm' : Nat → Nat → Option Value := fun k o => match β.imm k o with
    | some c => some c
    | none => if b.nil = false ∧ k = b.blk ∧ b.off ≤ o ∧ o < b.off + (encL t l).length then w.cell? ⟨k, o, none⟩ else none
  have hold : ∀ k o c, β.imm k o = some c → imm' k o = some c := fun k o c hc => by simp only [imm', hc]
  have hnew : ∀ k o c, imm' k o = some c → β.imm k o = some c ∨ (b.nil = false ∧ k = b.blk ∧ b.off ≤ o ∧ o < b.off + (encL t l).length ∧ w.cell? ⟨k, o, none⟩ = some c) := fun k o c hc => by
    simp only [imm'] at hc
    split at hc
    · rename_i c' hc'; cases hc; exact .inl hc'
    · split at hc
      · rename_i hk; exact .inr ⟨hk.1, hk.2.1, hk.2.2.1, hk.2.2.2, hc⟩
      · cases hc
  have hk : Keeps H.n β ⟨β.base, imm'⟩ := ⟨fun _ _ => .inl rfl, hold⟩
  have hrowne : ∀ k, k ≠ g → (H.set g (.fro t l e)).row k = H.row k := fun k hne => by rw [Heap.row_set, if_neg hne]
  have hrowg : (H.set g (.fro t l e)).row g = some (encL t l, e, true) := by rw [Heap.row_set, if_pos rfl]; rfl
  have hmutold : ∀ k, Mut ⟨β.base, imm'⟩ (H.set g (.fro t l e)) k → Mut β H k := by
    rintro k ⟨i, b1, c1, e1, hb1, hi, hn, rfl⟩
    by_cases hne : i = g
    · subst hne; rw [hrowg] at hi; cases hi
    · rw [hrowne i hne] at hi; exact ⟨i, b1, c1, e1, hb1, hi, hn, rfl⟩
  refine ⟨⟨β.base, imm'⟩, rfl, hk, ?_, ?_, by simp⟩
  · exact {
      lies := fun k b1 hb1 => by
        by_cases hne : k = g
        · subst hne
          have hbb : b1 = b := by
            have : β.base k = some b1 := hb1
            rw [hb] at this; cases this; rfl
          subst hbb
          refine ⟨_, _, _, hrowg, ?_⟩
          exact {
            cell := fun j v hv => by
              obtain ⟨c, hc, hr⟩ := hcs b1 hb j v hv
              exact ⟨c, hc, hr.mono (Nat.le_refl _) hk⟩
            plain := fun j v hv => List.all_eq_true.1 (encL_all t l) v (List.mem_of_getElem? hv)
            room := by rw [hlen]; exact hlies.room
            nl := fun hn => by
              have := hlies.nl hn
              rw [this] at hlen
              exact List.length_eq_zero_iff.1 hlen
            nr := fun h => by cases h
            blk := hlies.blk
            free := fun h => by cases h }
        · obtain ⟨c1, e1, ro1, h1, h2⟩ := h.lies k b1 hb1
          exact ⟨c1, e1, ro1, by rw [hrowne k hne]; exact h1, h2.later (Nat.le_refl _) hk fun _ => rfl⟩
      tot := fun k c1 e1 ro1 hk1 => by
        by_cases hne : k = g
        · subst hne; exact ⟨b, hb⟩
        · rw [hrowne k hne] at hk1; exact h.tot k c1 e1 ro1 hk1
      fresh := fun k o hk1 => by
        rw [Heap.get_set] at hk1
        split at hk1
        · rename_i e; subst e; exact h.row_lt hrow
        · exact h.fresh k o hk1
      apart := fun k k' b1 b2 c1 e1 hne hb1 hb2 hk1 => by
        by_cases hkg : k = g
        · subst hkg; rw [hrowg] at hk1; cases hk1
        · rw [hrowne k hkg] at hk1; exact h.apart k k' b1 b2 c1 e1 hne hb1 hb2 hk1
      immw := fun k o c hc => by
        rcases hnew k o c hc with h1 | ⟨_, _, _, _, h1⟩
        · exact h.immw k o c h1
        · exact h1
      immm := fun k o c hc hm => by
        rcases hnew k o c hc with h1 | ⟨hn, hkb, _, _, _⟩
        · exact h.immm k o c h1 (hmutold k hm)
        · obtain ⟨i, b1, c1, e1, hb1, hi, hn1, hk1⟩ := hm
          by_cases hne : i = g
          · subst hne; rw [hrowg] at hi; cases hi
          · rw [hrowne i hne] at hi
            exact h.apart i g b1 b c1 e1 hne hb1 hb hi hn1 hn (by rw [hk1, hkb])
      glob := h.glob.mono hold
      fro := fun k t1 l1 e1 b1 hk1 hb1 hn j v hv => by
        rw [Heap.get_set] at hk1
        split at hk1
        · rename_i hkg
          subst hkg
          cases hk1
          have hbb : b1 = b := by
            have : β.base k = some b1 := hb1
            rw [hb] at this; cases this; rfl
          subst hbb
          obtain ⟨c, hc, hr⟩ := hcs b1 hb j v hv
          refine ⟨c, ?_, hr.mono (Nat.le_refl _) hk⟩
          show imm' b1.blk (b1.off + j) = some c
          simp only [imm']
          have hj : j < (encL t l).length := (List.getElem?_eq_some_iff.1 hv).1
          split
          · rename_i c' hc'
            have := h.immw _ _ _ hc'
            rw [hc] at this
            cases this; rfl
          · rw [if_pos (by refine ⟨hn, ?_, ?_, ?_⟩ <;> first | rfl | trivial | omega)]; exact hc
        · obtain ⟨c, hc, hr⟩ := h.fro k t1 l1 e1 b1 hk1 hb1 hn j v hv
          exact ⟨c, hold _ _ _ hc, hr.mono (Nat.le_refl _) hk⟩ }
  · exact {
      os := rfl
      tape := rfl
      output := rfl
      size := Nat.le_refl _
      n := by simp
      keeps := hk
      ro := fun k c1 e1 hk1 => by
        have hne : k ≠ g := by rintro rfl; rw [hrow] at hk1; cases hk1
        exact ⟨rfl, c1, e1, by rw [hrowne k hne]; exact hk1⟩
      imm := fun k o c hc => by
        rcases hnew k o c hc with h1 | ⟨hn, hkb, _, _, _⟩
        · exact .inl h1
        · exact .inr (.inl ⟨g, b, cs, e0, hb, hrow, hn, hkb.symm⟩)
      blocks := fun _ _ _ => rfl
      turn := fun k hk1 => .inl (hmutold k hk1) }

/-- A row told otherwise. -/
theorem Rel.alike {β : At} {H : Heap} {w : World} (h : Rel β H w) {g : Nat} {cs cs' : List AV} {e0 e : TypeId} (hrow : H.row g = some (cs, e0, false)) {o : AObj} (ho : o.row = some (cs', e, false))
    (hlen : cs'.length = cs.length) (hall : cs'.all AV.cell = true) (hcs : ∀ b, β g = some b → ∀ (j : Nat) (v : AV), cs'[j]? = some v → ∃ c, w.cell? ⟨b.blk, b.off + j, none⟩ = some c ∧ VRel H.n β v c) :
    Melts β H w β (H.set g o) := by
  have hrowne : ∀ k, k ≠ g → (H.set g o).row k = H.row k := fun k hne => by rw [Heap.row_set, if_neg hne]
  have hrowg : (H.set g o).row g = some (cs', e, false) := by rw [Heap.row_set, if_pos rfl]; exact ho
  have hmut : ∀ k, Mut β (H.set g o) k → Mut β H k := by
    rintro k ⟨i, b1, c1, e1, hb1, hi, hn, rfl⟩
    by_cases hne : i = g
    · subst hne; exact ⟨i, b1, _, _, hb1, hrow, hn, rfl⟩
    · rw [hrowne i hne] at hi; exact ⟨i, b1, c1, e1, hb1, hi, hn, rfl⟩
  refine ⟨rfl, Keeps.refl _ _, ?_, ?_, by simp⟩
  · exact {
      lies := fun k b1 hb1 => by
        by_cases hne : k = g
        · subst hne
          obtain ⟨c1, e1, ro1, h1, h2⟩ := h.lies k b1 hb1
          rw [hrow] at h1
          cases h1
          refine ⟨_, _, _, hrowg, ?_⟩
          exact {
            cell := fun j v hv => hcs b1 hb1 j v hv
            plain := fun j v hv => List.all_eq_true.1 hall v (List.mem_of_getElem? hv)
            room := by rw [hlen]; exact h2.room
            nl := fun hn => by
              have := h2.nl hn
              rw [this] at hlen
              exact List.length_eq_zero_iff.1 hlen
            nr := h2.nr
            blk := h2.blk
            free := h2.free }
        · obtain ⟨c1, e1, ro1, h1, h2⟩ := h.lies k b1 hb1
          exact ⟨c1, e1, ro1, by rw [hrowne k hne]; exact h1, by simpa using h2⟩
      tot := fun k c1 e1 ro1 hk1 => by
        by_cases hne : k = g
        · subst hne; exact h.tot _ _ _ _ hrow
        · rw [hrowne k hne] at hk1; exact h.tot k c1 e1 ro1 hk1
      fresh := fun k o hk1 => by
        rw [Heap.get_set] at hk1
        split at hk1
        · rename_i e; subst e; exact h.row_lt hrow
        · exact h.fresh k o hk1
      apart := fun k k' b1 b2 c1 e1 hne hb1 hb2 hk1 => by
        by_cases hkg : k = g
        · subst hkg; exact h.apart k k' b1 b2 _ _ hne hb1 hb2 hrow
        · rw [hrowne k hkg] at hk1; exact h.apart k k' b1 b2 c1 e1 hne hb1 hb2 hk1
      immw := h.immw
      immm := fun k o c hc hm => h.immm k o c hc (hmut k hm)
      glob := h.glob
      fro := fun k t1 l1 e1 b1 hk1 hb1 hn j v hv => by
        rw [Heap.get_set] at hk1
        split at hk1
        · cases hk1; simp [AObj.row] at ho
        · exact h.fro k t1 l1 e1 b1 hk1 hb1 hn j v hv }
  · exact {
      os := rfl
      tape := rfl
      output := rfl
      size := Nat.le_refl _
      n := by simp
      keeps := Keeps.refl _ _
      ro := fun k c1 e1 hk1 => by
        have hne : k ≠ g := by rintro rfl; rw [hrow] at hk1; cases hk1
        exact ⟨rfl, c1, e1, by rw [hrowne k hne]; exact hk1⟩
      imm := fun _ _ _ h => .inl h
      blocks := fun _ _ _ => rfl
      turn := fun k hk1 => .inl (hmut k hk1) }

section melt
theorem map_got {α γ : Type} {x : Option α} {f : α → γ} {b : γ} (h : x.map f = some b) : ∃ a, x = some a ∧ f a = b := by
  cases x with
  | none => cases h
  | some a => exact ⟨a, rfl, by simpa using h⟩
variable {β : At} {H : Heap} {w : World}
theorem encL_part (t : Ty) (l : List t.den) (e n k : Nat) (v : AV) (h : (encL t ((l.drop e).take n))[k]? = some v) : (encL t l)[e * t.z + k]? = some v := by
  rw [encL_take, encL_drop] at h
  have h1 : k < n * t.z := by
    have := (List.getElem?_eq_some_iff.1 h).1
    simp only [List.length_take] at this
    omega
  rw [List.getElem?_take_of_lt h1, List.getElem?_drop] at h
  exact h
/-- A part of a frozen row is data. -/
theorem thaw_sound (hR : Rel β H w) {t t' : Ty} {l : List t'.den} {e : TypeId} {r : Ref} {n z : Nat} {b : Bool} {v : AV} {c : Value} (hg : H.get r.g = some (.fro t' l e)) (h : thawAt t t' l r n z = some v) (hv : VRel H.n β (.slice b (some r) n z) c) : VRel H.n β v c := by
  unfold thawAt at h
  split at h
  · rename_i hc
    obtain ⟨_, h1, h2, h3, h4⟩ := hc
    cases h
    have hrow : H.row r.g = some (encL t' l, e, true) := by unfold Heap.row; rw [hg]; rfl
    obtain ⟨bs, hb⟩ := hR.tot _ _ _ _ hrow
    cases hv with
    | slice _ _ _ _ cap a hlt hn hs hat =>
      have hat := hat bs hb
      have hlen : ((l.drop r.e).take n).length = n := by rw [List.length_take, List.length_drop]; omega
      have hri : r.i = r.e * t'.z := by simp only [Ref.i, h1, h2, Nat.add_zero]
      have goal : ∀ (m : Nat), m = ((l.drop r.e).take n).length → VRel H.n β (.vec t' ((l.drop r.e).take n)) (.slice a m cap) := by
        rintro m rfl
        cases hnil : bs.nil with
        | true =>
          have h0 := (hat.1 hnil).1
          have hnl : (l.drop r.e).take n = [] := by rw [h0, List.take_zero]
          rw [hnl]
          exact .vec _ _ cap a 0 0 (fun _ => .bool false) (Nat.zero_le _) ⟨fun h => by simp at h, hs⟩ (fun k v hv => by simp [encL] at hv) (fun k v hv => by simp [encL] at hv)
        | false =>
          have hfro := hR.fro r.g t' l e bs hg hb hnil
          refine .vec _ _ cap a bs.blk (bs.off + r.e * t'.z) (fun k => (β.imm bs.blk (bs.off + r.e * t'.z + k)).getD (.bool false)) (by rw [hlen]; exact hn) ⟨fun hpos => ?_, hs⟩ (fun k v hv => ?_) (fun k v hv => ?_)
          · have := (hat.2 hnil).1 (by rw [hlen] at hpos; omega)
            rw [this, hri]
          · obtain ⟨c, hc, _⟩ := hfro _ _ (encL_part _ _ _ _ _ _ hv)
            rw [← Nat.add_assoc] at hc
            rw [hc]; rfl
          · obtain ⟨c, hc, hr⟩ := hfro _ _ (encL_part _ _ _ _ _ _ hv)
            rw [← Nat.add_assoc] at hc
            rw [hc]; exact hr
      exact goal n hlen.symm
  · cases h

def FSound (f : Nat → List AV → Heap → Option (List AV × Heap)) : Prop := ∀ n l H l' H', f n l H = some (l', H') → ∀ β w cs, Rel β H w → VsRel H.n β l cs → ∃ β', Melts β H w β' H' ∧ VsRel H.n β' l' cs
/-- A row's cells, as they lie. -/
theorem Lies.list {N : Nat} {cs : List AV} {ro : Bool} {b : Base} (hl : Lies N β w cs ro b) : ∃ ds : List Value, VsRel N β cs ds ∧ ∀ (j : Nat) (d : Value), ds[j]? = some d → w.cell? ⟨b.blk, b.off + j, none⟩ = some d := by
  refine ⟨(List.range cs.length).map fun j => (w.cell? ⟨b.blk, b.off + j, none⟩).getD (.bool false), VsRel.of_at (by simp) fun j v c hv hc => ?_, fun j d hd => ?_⟩
  · obtain ⟨c', hc', hr⟩ := hl.cell j v hv
    have hj := (List.getElem?_eq_some_iff.1 hv).1
    rw [List.getElem?_map, List.getElem?_range hj] at hc
    simp only [Option.map_some, hc', Option.getD_some, Option.some.injEq] at hc
    subst hc
    exact hr
  · have hj : j < cs.length := by have := (List.getElem?_eq_some_iff.1 hd).1; simpa using this
    obtain ⟨c', hc', hr⟩ := hl.cell j cs[j] (List.getElem?_eq_getElem hj)
    rw [List.getElem?_map, List.getElem?_range hj] at hd
    simp only [Option.map_some, hc', Option.getD_some, Option.some.injEq] at hd
    subst hd
    exact hc'
/-- Cells of a row that were melted are the row's data. -/
theorem melted (hR : Rel β H w) {g : Nat} {cs : List AV} {e : TypeId} (hrow : H.row g = some (cs, e, false)) {f : Nat → List AV → Heap → Option (List AV × Heap)} (hf : FSound f) {n : Nat} {cs' : List AV} {H1 : Heap} (hm : f n cs H = some (cs', H1))
    {t : Ty} {l : List t.den} (hd : decL t cs' = some l) {cs2 : List AV} {e2 : TypeId} (hg : H1.get g = some (.cells cs2 e2 false)) (hlen : cs2.length = cs'.length) :
    ∃ β1, Melts β H w β1 H1 ∧ H1.row g = some (cs2, e2, false) ∧ (encL t l).length = cs2.length ∧ ∀ b, β1 g = some b → ∀ (j : Nat) (v : AV), (encL t l)[j]? = some v → ∃ c, w.cell? ⟨b.blk, b.off + j, none⟩ = some c ∧ VRel H1.n β1 v c := by
  obtain ⟨b, hb⟩ := hR.tot _ _ _ _ hrow
  obtain ⟨cs1, e1, ro1, hr1, hlies⟩ := hR.lies g b hb
  rw [hrow] at hr1
  cases hr1
  obtain ⟨ds, hds, hcell⟩ := hlies.list
  obtain ⟨β1, hM, hv⟩ := hf _ _ _ _ _ hm β w ds hR hds
  have hL := (decL_like hd).1
  refine ⟨β1, hM, by unfold Heap.row; rw [hg]; rfl, by rw [hL.1, hlen], fun b1 hb1 j v hj => ?_⟩
  have hbb : b1 = b := by
    have : β1.base g = some b1 := hb1
    rw [hM.base, hb] at this
    cases this; rfl
  subst hbb
  obtain ⟨c, hc, hr⟩ := (hL.2.2 _ _ _ hv).at j v hj
  exact ⟨c, hcell j c hc, by rw [hM.n]; exact hr⟩
theorem freezeV_sound {f : Nat → List AV → Heap → Option (List AV × Heap)} (hf : FSound f) {t : Ty} {v v' : AV} {H' : Heap} {c : Value} (h : freezeV f t v H = some (v', H')) (hR : Rel β H w) (hv : VRel H.n β v c) : ∃ β', Melts β H w β' H' ∧ VRel H.n β' v' c := by
  unfold freezeV at h
  split at h
  · rename_i b r n z
    split at h
    · rename_i t' l e hg
      obtain ⟨u, hu, he⟩ := map_got h
      cases he
      exact ⟨β, Melts.refl hR, thaw_sound hR hg hu hv⟩
    · rename_i t' l e hg
      obtain ⟨u, hu, he⟩ := map_got h
      cases he
      have hrow : H.row r.g = some (encL t' l, e, false) := by unfold Heap.row; rw [hg]; rfl
      obtain ⟨β', hM⟩ := hR.freeze hrow t' l e rfl fun bb hb j x hx => by
        obtain ⟨cs1, e1, ro1, hr1, hlies⟩ := hR.lies _ bb hb
        rw [hrow] at hr1
        cases hr1
        exact hlies.cell j x hx
      refine ⟨β', hM, ?_⟩
      have := thaw_sound hM.rel (t := t) (by rw [Heap.get_set, if_pos rfl]) hu (b := b) (c := c) (by rw [hM.n]; exact hv.mono (Nat.le_refl _) hM.keeps)
      rw [hM.n] at this
      exact this
    · rename_i cs e hg
      split at h
      · rename_i cs' H1 hm
        split at h
        · rename_i l cs2 e2 hd hg2
          split at h
          · rename_i hlen
            obtain ⟨u, hu, he⟩ := map_got h
            cases he
            have hrow : H.row r.g = some (cs, e, false) := by unfold Heap.row; rw [hg]; rfl
            obtain ⟨β1, hM1, hrow1, hl1, hcs1⟩ := melted hR hrow hf hm hd hg2 hlen
            obtain ⟨β2, hM2⟩ := hM1.rel.freeze hrow1 t l e2 hl1 hcs1
            have hM := hM1.trans hM2
            refine ⟨β2, hM, ?_⟩
            have := thaw_sound hM2.rel (t := t) (by rw [Heap.get_set, if_pos rfl]) hu (b := b) (c := c) (by rw [hM.n]; exact hv.mono (Nat.le_refl _) hM.keeps)
            rw [hM.n] at this
            exact this
          · cases h
        · cases h
      · cases h
    · cases h
  · cases h
    exact ⟨β, Melts.refl hR, hv⟩
def TSound (f : List AV → Heap → Option (List AV × List AV × Heap)) : Prop := ∀ l H d rest H', f l H = some (d, rest, H') → ∀ β w cs, Rel β H w → VsRel H.n β l cs →
  ∃ β', Melts β H w β' H' ∧ ∃ cs1 cs2, cs = cs1 ++ cs2 ∧ VsRel H.n β' d cs1 ∧ VsRel H.n β' rest cs2
theorem meltN_sound {f : List AV → Heap → Option (List AV × List AV × Heap)} (hf : TSound f) : FSound (meltN f) := by
  intro n
  induction n with
  | zero =>
    intro l H l' H' h β w cs hR hv
    cases l with
    | nil => simp only [meltN, Option.some.injEq, Prod.mk.injEq] at h; obtain ⟨rfl, rfl⟩ := h; exact ⟨β, Melts.refl hR, hv⟩
    | cons x l => simp [meltN] at h
  | succ n ih =>
    intro l H l' H' h β w cs hR hv
    simp only [meltN] at h
    split at h
    · rename_i d l1 H1 h1
      split at h
      · rename_i d' H2 h2
        cases h
        obtain ⟨β1, hM1, cs1, cs2, rfl, hv1, hv2⟩ := hf _ _ _ _ _ h1 β w cs hR hv
        obtain ⟨β2, hM2, hv3⟩ := ih _ _ _ _ h2 β1 w cs2 hM1.rel (by rw [hM1.n]; exact hv2)
        refine ⟨β2, hM1.trans hM2, (hv1.mono (Nat.le_refl _) ?_).append ?_⟩
        · have := hM2.keeps; rw [hM1.n] at this; exact this
        · rw [hM1.n] at hv3; exact hv3
      · cases h
    · cases h
theorem meltT_sound : (t : Ty) → TSound (meltT t)
  | .sl t, l, H, d, rest, H', h, β, w, cs, hR, hv => by
    cases l with
    | nil => simp [meltT] at h
    | cons v l =>
      simp only [meltT] at h
      obtain ⟨u, hu, he⟩ := map_got h
      cases he
      cases hv with
      | cons _ c _ cs h1 h2 =>
        obtain ⟨β', hM, hv'⟩ := freezeV_sound (meltN_sound (meltT_sound t)) hu hR h1
        exact ⟨β', hM, [c], cs, rfl, .one hv', h2.mono (Nat.le_refl _) hM.keeps⟩
  | .pair a b, l, H, d, rest, H', h, β, w, cs, hR, hv => by
    simp only [meltT] at h
    split at h
    · rename_i d1 l1 H1 h1
      split at h
      · rename_i d2 l2 H2 h2
        cases h
        obtain ⟨β1, hM1, cs1, cs2, rfl, hv1, hv2⟩ := meltT_sound a _ _ _ _ _ h1 β w cs hR hv
        obtain ⟨β2, hM2, cs3, cs4, rfl, hv3, hv4⟩ := meltT_sound b _ _ _ _ _ h2 β1 w cs2 hM1.rel (by rw [hM1.n]; exact hv2)
        have hk := hM2.keeps
        rw [hM1.n] at hv3 hv4 hk
        exact ⟨β2, hM1.trans hM2, cs1 ++ cs3, cs4, by simp, (hv1.mono (Nat.le_refl _) hk).append hv3, hv4⟩
      · cases h
    · cases h
  | .unit, l, H, d, rest, H', h, β, w, cs, hR, hv => by
    simp only [meltT, Option.some.injEq, Prod.mk.injEq] at h
    obtain ⟨rfl, rfl, rfl⟩ := h
    exact ⟨β, Melts.refl hR, [], cs, rfl, .nil, hv⟩
  | .bool, l, H, d, rest, H', h, β, w, cs, hR, hv => one_cell (by cases l with
    | nil => simp [meltT] at h
    | cons v r => simp only [meltT, Option.some.injEq, Prod.mk.injEq] at h; exact ⟨v, r, rfl, h⟩) hR hv
  | .int _, l, H, d, rest, H', h, β, w, cs, hR, hv => one_cell (by cases l with
    | nil => simp [meltT] at h
    | cons v r => simp only [meltT, Option.some.injEq, Prod.mk.injEq] at h; exact ⟨v, r, rfl, h⟩) hR hv
  | .byte, l, H, d, rest, H', h, β, w, cs, hR, hv => one_cell (by cases l with
    | nil => simp [meltT] at h
    | cons v r => simp only [meltT, Option.some.injEq, Prod.mk.injEq] at h; exact ⟨v, r, rfl, h⟩) hR hv
  | .str, l, H, d, rest, H', h, β, w, cs, hR, hv => one_cell (by cases l with
    | nil => simp [meltT] at h
    | cons v r => simp only [meltT, Option.some.injEq, Prod.mk.injEq] at h; exact ⟨v, r, rfl, h⟩) hR hv
where
  one_cell {l : List AV} {H : Heap} {d rest : List AV} {H' : Heap} {β : At} {w : World} {cs : List Value} (h : ∃ v r, l = v :: r ∧ [v] = d ∧ r = rest ∧ H = H') (hR : Rel β H w) (hv : VsRel H.n β l cs) :
      ∃ β', Melts β H w β' H' ∧ ∃ cs1 cs2, cs = cs1 ++ cs2 ∧ VsRel H.n β' d cs1 ∧ VsRel H.n β' rest cs2 := by
    obtain ⟨v, r, rfl, rfl, rfl, rfl⟩ := h
    cases hv with
    | cons _ c _ cs h1 h2 => exact ⟨β, Melts.refl hR, [c], cs, rfl, .one h1, h2⟩
theorem settle_sound {P : Program} {g : Nat} {e : TypeId} {H' : Heap} (h : settle P g e H = some H') (hR : Rel β H w) : ∃ β', Melts β H w β' H' := by
  unfold settle at h
  split at h
  · cases h; exact ⟨β, Melts.refl hR⟩
  · rename_i t _
    split at h
    · rename_i cs e1 hg
      split at h
      · rename_i cs' H1 hm
        split at h
        · rename_i l cs2 e2 hd hg2
          split at h
          · rename_i hlen
            cases h
            have hrow : H.row g = some (cs, e1, false) := by unfold Heap.row; rw [hg]; rfl
            obtain ⟨β1, hM1, hrow1, hl1, hcs1⟩ := melted hR hrow (meltN_sound (meltT_sound t)) hm hd hg2 hlen
            exact ⟨β1, hM1.trans (hM1.rel.alike hrow1 (o := .vec t l e2 false) rfl hl1 (encL_all t l) hcs1)⟩
          · cases h
        · cases h
      · cases h
    · cases h
end melt
theorem Fits.settle {P : Program} {o : Oper} {a : Act} {β : At} {H H1 H2 : Heap} {w : World} {v : AV} {g : Nat} {e : TypeId} (h : Fits P o a β H w v H1) (hs : settle P g e H1 = some H2) : Fits P o a β H w v H2 := by
  obtain ⟨β1, w1, hR, hLe, h⟩ := h
  obtain ⟨β2, hM⟩ := settle_sound hs hR
  refine ⟨β2, w1, hM.rel, hLe.trans hM.le, ?_⟩
  rcases h with ⟨c, hc, hv⟩ | ⟨hc, hv⟩
  · exact .inl ⟨c, hc, by rw [hM.n]; exact hv.mono (Nat.le_refl _) hM.keeps⟩
  · exact .inr ⟨hc, hv⟩
end Go.Vx
