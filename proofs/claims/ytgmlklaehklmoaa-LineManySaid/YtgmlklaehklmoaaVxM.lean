/- What a call does to few rows it does to them among many: the state behind it. (A help: no statement of the seat is proved here.) -/
import Derived.Test.YtgmlklaehklmoaaVxL
set_option linter.unusedVariables false
set_option linter.unusedSimpArgs false
namespace Go.Vx
section frame
variable {D : Dom} {x : D.den} {H H1 H' : Heap} {β β1 : At} {w w' : World} {ρ : Rho} {B : Nat → Option Base} {cs : List Value}

theorem back_cell {W : Way} {v v' : AV} (h : back W v = some v') (hv : v.cell = true) : v'.cell = true := by
  cases v with
  | ptr t r =>
    cases r with
    | none => simp only [back, Option.some.injEq] at h; subst h; rfl
    | some r =>
      simp only [back] at h
      split at h
      · cases h; rfl
      · split at h
        · cases h; rfl
        · cases h
      · split at h
        · cases h; rfl
        · cases h
      · cases h
  | slice t r n z =>
    cases r with
    | none => simp only [back, Option.some.injEq] at h; subst h; rfl
    | some r =>
      simp only [back] at h
      split at h
      · cases h; rfl
      · split at h
        · cases h; rfl
        · cases h
      · split at h
        · cases h; rfl
        · cases h
      · cases h
  | func f a b =>
    simp only [back] at h
    split at h
    · cases h; rfl
    · cases h
  | agg l => cases hv
  | tup l => cases hv
  | _ => simp only [back, Option.some.injEq] at h; subst h; exact hv

theorem backL_get {W : Way} : ∀ {l l' : List AV}, backL W l = some l' → l'.length = l.length ∧ ∀ (j : Nat) (v' : AV), l'[j]? = some v' → ∃ v, l[j]? = some v ∧ back W v = some v'
  | [], l', h => by simp only [backL, Option.some.injEq] at h; subst h; exact ⟨rfl, fun j v' hj => by simp at hj⟩
  | x :: l, l', h => by
    simp only [backL] at h
    split at h
    · rename_i x' l1 hx hl
      cases h
      obtain ⟨q1, q2⟩ := backL_get hl
      refine ⟨by simp [q1], fun j v' hj => ?_⟩
      cases j with
      | zero => simp at hj; subst hj; exact ⟨x, rfl, hx⟩
      | succ j => simpa using q2 j v' (by simpa using hj)
    · cases h

/-- A row behind the call. -/
theorem backO_lies {N1 : Nat} {β' : At} {W : Way} (himm : ∀ b o c, β1.imm b o = some c → β'.imm b o = some c) (hk : ∀ i d, i < N1 → W.to i = some d → Known β1 β' i H' d) {o o' : AObj} (h : backO W (some o) = some o') {cs : List AV} {e : TypeId} {ro : Bool} {b : Base} (hrow : o.row = some (cs, e, ro))
    (hl : Lies N1 β1 w' cs ro b) : ∃ cs', o'.row = some (cs', e, ro) ∧ Lies H'.n β' w' cs' ro b := by
  cases o with
  | dead => cases hrow
  | cells c e' ro' =>
    simp only [AObj.row, Option.some.injEq, Prod.mk.injEq] at hrow
    obtain ⟨rfl, rfl, rfl⟩ := hrow
    simp only [backO] at h
    obtain ⟨c', hc, rfl⟩ := map_some h
    obtain ⟨q1, q2⟩ := backL_get hc
    refine ⟨c', rfl, ?_⟩
    exact {
      cell := fun j v' hj => by
        obtain ⟨v, hv, hb⟩ := q2 j v' hj
        obtain ⟨d, hd, hr⟩ := hl.cell j v hv
        exact ⟨d, hd, back_sound himm hk hb hr⟩
      plain := fun j v' hj => by
        obtain ⟨v, hv, hb⟩ := q2 j v' hj
        exact back_cell hb (hl.plain j v hv)
      room := by rw [q1]; exact hl.room
      nl := fun hn => by
        have := hl.nl hn
        subst this
        exact List.length_eq_zero_iff.1 q1
      nr := hl.nr
      blk := hl.blk
      free := hl.free }
  | vec t l e' ro' =>
    simp only [AObj.row, Option.some.injEq, Prod.mk.injEq] at hrow
    obtain ⟨rfl, rfl, rfl⟩ := hrow
    simp only [backO, Option.some.injEq] at h
    subst h
    exact ⟨_, rfl, hl.data (encL_data _ _) himm (fun h => h)⟩
  | fro t l e' => simp only [backO] at h; cases h
theorem backO_fro {W : Way} {x : Option AObj} {t : Ty} {l : List t.den} {e : TypeId} : backO W x ≠ some (.fro t l e) := fun h => by
  cases x with
  | none => simp [backO] at h
  | some o =>
    cases o with
    | dead => simp [backO] at h
    | cells c e' ro' => simp only [backO] at h; obtain ⟨_, _, he⟩ := map_some h; cases he
    | vec t l e' ro' => simp [backO] at h
    | fro t l e' => simp [backO] at h
theorem backO_row {W : Way} {x : Option AObj} {o' : AObj} (h : backO W x = some o') {cs' : List AV} {e : TypeId} {ro : Bool} (hrow : o'.row = some (cs', e, ro)) : ∃ o cs, x = some o ∧ o.row = some (cs, e, ro) := by
  cases x with
  | none => simp only [backO, Option.some.injEq] at h; subst h; cases hrow
  | some o =>
    cases o with
    | dead => simp only [backO, Option.some.injEq] at h; subst h; cases hrow
    | cells c e' ro' =>
      simp only [backO] at h
      obtain ⟨c', hc, rfl⟩ := map_some h
      simp only [AObj.row, Option.some.injEq, Prod.mk.injEq] at hrow
      obtain ⟨_, rfl, rfl⟩ := hrow
      exact ⟨_, c, rfl, rfl⟩
    | vec t l e' ro' =>
      simp only [backO, Option.some.injEq] at h
      subst h
      exact ⟨_, cs', rfl, hrow⟩
    | fro t l e' => simp only [backO] at h; cases h

/-- The rows behind the call. -/
structure Rows (D : Dom) (ρ : Rho) (H H1 H' : Heap) : Prop where
  n : H'.n = H.n + (newRows ρ D.rows.length H1.n).length
  some_ : ∀ g i, inv D ρ H H1 g = some i → ∃ o', H'.get g = some o' ∧ backO (wayOf D ρ H H1) (H1.get i) = some o'
  none_ : ∀ g, inv D ρ H H1 g = none → g < H.n → H'.get g = H.get g
  out : ∀ g, ¬ g < H'.n → H'.get g = none
  new : ∀ g i, inv D ρ H H1 g = some i → D.rows.length ≤ i → ∀ cs e, H'.row g ≠ some (cs, e, true)
  later : Later H H'

theorem backH_rows (hfr : ∀ g o, H.get g = some o → g < H.n) (hc : Cast D x H β w ρ B cs) (hlt : ∀ i r g, D.rows[i]? = some r → r.rw = true → Src.row? (ρ.find i) = some g → g < H.n) (h : backH D ρ H H1 = some H') : Rows D ρ H H1 H' := by
  unfold backH at h
  split at h
  · rename_i L NL hL hNL
    cases h
    obtain ⟨q1, q2⟩ := objsNew_get hNL
    have hn : (pushes (setsL H L) NL).n = H.n + (newRows ρ D.rows.length H1.n).length := by rw [pushes_n, setsL_n, q1]
    have hget : ∀ g, (pushes (setsL H L) NL).get g = if g < H.n then (setsL H L).get g else if g < H.n + NL.length then NL[g - H.n]? else (setsL H L).get g := by
      intro g
      rw [pushes_get, setsL_n]
    have hkeys : ∀ g o, look g L = some o → g < H.n := by
      intro g o ho
      rcases look_objs (g := g) hL with ⟨_, h2⟩ | ⟨i, o', h1, _, _⟩
      · rw [h2] at ho; cases ho
      · obtain ⟨j, r, e1, h2, h4, h3⟩ := rwRows_mem.1 (lookI_mem.1 i h1)
        rw [Nat.zero_add] at e1
        exact hlt i r g (by rw [e1]; exact h2) h4 h3
    refine ⟨hn, fun g i hi => ?_, fun g hi hg => ?_, fun g hg => ?_, fun g i hi hge cs' e => ?_, ?_⟩
    · unfold inv at hi
      rw [hget]
      split at hi
      · rename_i hg
        rw [if_pos hg, setsL_get]
        rcases look_objs (g := g) hL with ⟨h1, _⟩ | ⟨i', o', h1, h2, h3⟩
        · rw [h1] at hi; cases hi
        · rw [h1] at hi; cases hi
          rw [h2]
          exact ⟨o', rfl, h3⟩
      · rename_i hg
        obtain ⟨o, ho, hb⟩ := q2 _ i hi
        have hl := (List.getElem?_eq_some_iff.1 ho).1
        rw [if_neg hg, if_pos (by omega)]
        refine ⟨o, ho, ?_⟩
        split at hb
        · exact hb
        · exact (backNew_O hb).1
    · unfold inv at hi
      rw [if_pos hg] at hi
      rw [hget, if_pos hg, setsL_get]
      rcases look_objs (g := g) hL with ⟨_, h2⟩ | ⟨i', o', h1, _, _⟩
      · rw [h2]
      · rw [h1] at hi; cases hi
    · rw [hn, ← q1] at hg
      rw [hget, if_neg (by omega), if_neg hg, setsL_get]
      cases hl : look g L with
      | some o => have := hkeys g o hl; omega
      | none =>
        cases ho : H.get g with
        | none => rfl
        | some o => have := hfr g o ho; omega
    · unfold inv at hi
      intro hrow
      unfold Heap.row at hrow
      rw [hget] at hrow
      split at hi
      · rename_i hg
        obtain ⟨j, r, e1, hr, _, _⟩ := rwRows_mem.1 (lookI_mem.1 i hi)
        have := (List.getElem?_eq_some_iff.1 hr).1
        omega
      · rename_i hg
        obtain ⟨o, ho, hb⟩ := q2 _ i hi
        have hl := (List.getElem?_eq_some_iff.1 ho).1
        rw [if_neg hg, if_pos (by omega), ho] at hrow
        split at hb
        · rename_i hro
          unfold roNil at hro
          have := Nat.blt_eq.mp hro
          simp only at this
          omega
        · exact (backNew_O hb).2 cs' e hrow
    · have h1 : Later H (setsL H L) := by
        clear hget hkeys hn hL
        induction L with
        | nil => exact Later.refl _
        | cons p L ih => exact ih.trans (Later.set _ _ _)
      have h2 : ∀ (NL : List AObj) (H0 : Heap), Later H0 (pushes H0 NL) := by
        intro NL
        induction NL with
        | nil => intro H0; exact Later.refl _
        | cons o NL ih => intro H0; exact (Later.push _ _).trans (ih _)
      exact h1.trans (h2 _ _)
  · cases h

theorem frame_sound (hR : Rel β H w) (hc : Cast D x H β w ρ B cs) (hnd : ∀ r, r ∈ D.rows → r.dead? = false) (hR1 : Rel β1 H1 w') (hLe : Le (D.at_ β B) (D.heap x) w β1 H1 w') (hrows : Rows D ρ H H1 H') :
    Rel (backAt D ρ H H1 β β1) H' w' ∧ Le β H w (backAt D ρ H H1 β β1) H' w' ∧ ∀ v v' c, back (wayOf D ρ H H1) v = some v' → VRel H1.n β1 v c → VRel H'.n (backAt D ρ H H1 β β1) v' c := by
  have hkn : ∀ i d, i < H1.n → (wayOf D ρ H H1).to i = some d → Known β1 (backAt D ρ H H1 β β1) i H' d := fun i d hi hd => known hR hc hR1 hLe hrows.n hi hnd hd
  have himm : ∀ b o c, β1.imm b o = some c → (backAt D ρ H H1 β β1).imm b o = some c := fun _ _ _ h => h
  have hn : H.n ≤ H'.n := by rw [hrows.n]; omega
  have hβlt : ∀ g b, β g = some b → g < H.n := fun g b h => by
    obtain ⟨c, e, ro, h, _⟩ := hR.lies g b h
    exact hR.row_lt h
  have hat : ∀ i r, D.rows[i]? = some r → (D.at_ β B) i = B i := fun i r hr => by
    show (if D.live i = true then B i else none) = _
    rw [if_pos (by unfold Dom.live; rw [hr]; simp [hnd r (List.mem_of_getElem? hr)])]
  -- a row that may be written: where it lies
  have hmine : ∀ g i, g < H.n → inv D ρ H H1 g = some i → ∃ bs cs e, β g = some bs ∧ B i = some bs ∧ (D.at_ β B) i = some bs ∧ H.row g = some (cs, e, false) ∧ i < D.rows.length := by
    intro g i hg hi
    obtain ⟨r, s, hr, hrw, hs, hsg, hlt⟩ := inv_rw hc hg hi
    obtain ⟨s', bs, hs', hbs, _, _, hm⟩ := hc.row i r hr (live_of_rw hrw)
    rw [hs] at hs'
    cases hs'
    rcases hm hrw with ⟨h, _⟩ | ⟨g', c1, e1, hg', hβ, hrow⟩
    · subst h; cases hsg
    · rw [hsg] at hg'
      cases hg'
      exact ⟨bs, c1, e1, hβ, hbs, by rw [hat i r hr]; exact hbs, hrow, hlt⟩
  have hKeep : Keeps H.n β (backAt D ρ H H1 β β1) := by
    refine ⟨fun g hg => ?_, fun b o c h => hLe.keeps.2 b o c h⟩
    cases hi : inv D ρ H H1 g with
    | none => rw [backAt_none hi, if_pos hg]; exact .inl rfl
    | some i =>
      obtain ⟨bs, _, _, hβ, _, hat', _, hlt⟩ := hmine g i hg hi
      rw [backAt_some hi]
      rcases hLe.keeps.1 i (by rw [D.heap_n]; exact hlt) with h | h
      · rw [h, hat', hβ]; exact .inl rfl
      · exact .inr h
  -- a block that one of the callee's rows had is no block of another old row
  have hother : ∀ k, Mut (D.at_ β B) (D.heap x) k → ∀ g b, inv D ρ H H1 g = none → β g = some b → b.nil = false → b.blk ≠ k := by
    rintro k ⟨i, bi, c1, e1, hbi, hri, hni, rfl⟩ g b hg hβ hnb hblk
    have hli : ∃ r, D.rows[i]? = some r := by
      have hb : (if D.live i = true then B i else none) = some bi := hbi
      split at hb
      · rename_i hl
        unfold Dom.live at hl
        split at hl
        · rename_i r hr; exact ⟨r, hr⟩
        · cases hl
      · cases hb
    obtain ⟨r, hr⟩ := hli
    obtain ⟨s, bs, hs, hbs, ⟨c2, e2, hrow2⟩, _, hm⟩ := hc.row i r hr (hnd r (List.mem_of_getElem? hr))
    rw [hri] at hrow2
    simp only [Option.some.injEq, Prod.mk.injEq] at hrow2
    rw [hat i r hr, hbs] at hbi
    cases hbi
    have hrw : r.rw = true := by simpa using hrow2.2.2.symm
    rcases hm hrw with ⟨_, h⟩ | ⟨g', c3, e3, hg', hβ', hrow'⟩
    · rw [hni] at h; cases h
    · have hinv := rw_inv (H1 := H1) hc hr hrw (by rw [hs]; exact hg') (hβlt _ _ hβ')
      have hne : g' ≠ g := fun e => by rw [e, hg] at hinv; cases hinv
      exact hR.apart g' g bi b c3 e3 hne hβ' hβ hrow' hni hnb hblk.symm
  have hsame : ∀ g b, inv D ρ H H1 g = none → β g = some b → b.nil = false → w'.heap[b.blk]? = w.heap[b.blk]? := fun g b hg hβ hnb =>
    hLe.blocks _ (hR.blk_lt hβ hnb) fun hm => hother _ hm g b hg hβ hnb rfl
  have hRel : Rel (backAt D ρ H H1 β β1) H' w' := {
    lies := fun g b hb => by
      cases hi : inv D ρ H H1 g with
      | some i =>
        rw [backAt_some hi] at hb
        obtain ⟨c1, e1, ro1, hrow, hl⟩ := hR1.lies i b hb
        obtain ⟨o', ho', hbo⟩ := hrows.some_ g i hi
        unfold Heap.row at hrow
        cases ho : H1.get i with
        | none => rw [ho] at hrow; cases hrow
        | some o =>
          rw [ho] at hrow hbo
          obtain ⟨c2, h1, h2⟩ := backO_lies himm hkn hbo (by simpa using hrow) hl
          exact ⟨c2, e1, ro1, by unfold Heap.row; rw [ho']; exact h1, h2⟩
      | none =>
        rw [backAt_none hi] at hb
        split at hb
        · rename_i hg
          obtain ⟨c1, e1, ro1, hrow, hl⟩ := hR.lies g b hb
          exact ⟨c1, e1, ro1, by unfold Heap.row at hrow ⊢; rw [hrows.none_ g hi hg]; exact hrow, hl.later hn hKeep fun hnb => hsame g b hi hb hnb⟩
        · cases hb
    tot := fun g c1 e1 ro1 hrow => by
      cases hi : inv D ρ H H1 g with
      | some i =>
        obtain ⟨o', ho', hbo⟩ := hrows.some_ g i hi
        unfold Heap.row at hrow
        rw [ho'] at hrow
        obtain ⟨o, c2, ho, hro⟩ := backO_row hbo (show o'.row = _ from hrow)
        obtain ⟨b, hb⟩ := hR1.tot i c2 e1 ro1 (by unfold Heap.row; rw [ho]; exact hro)
        exact ⟨b, by rw [backAt_some hi]; exact hb⟩
      | none =>
        by_cases hg : g < H.n
        · unfold Heap.row at hrow
          rw [hrows.none_ g hi hg] at hrow
          obtain ⟨b, hb⟩ := hR.tot g c1 e1 ro1 hrow
          exact ⟨b, by rw [backAt_none hi, if_pos hg]; exact hb⟩
        · exfalso
          have hout : ¬ g < H'.n := by
            intro hlt
            rw [hrows.n] at hlt
            unfold inv at hi
            rw [if_neg hg, List.getElem?_eq_none_iff] at hi
            omega
          unfold Heap.row at hrow
          rw [hrows.out g hout] at hrow
          cases hrow
    fresh := fun g o ho => by
      apply Classical.byContradiction
      intro hg
      rw [hrows.out g hg] at ho
      cases ho
    apart := fun g g' b b' c1 e1 hne hb hb' hrow hnb hnb' hblk => by
      cases hi : inv D ρ H H1 g with
      | some i =>
        rw [backAt_some hi] at hb
        obtain ⟨o', ho', hbo⟩ := hrows.some_ g i hi
        unfold Heap.row at hrow
        rw [ho'] at hrow
        obtain ⟨o, c2, ho, hro⟩ := backO_row hbo (show o'.row = _ from hrow)
        have hrow1 : H1.row i = some (c2, e1, false) := by unfold Heap.row; rw [ho]; exact hro
        cases hi' : inv D ρ H H1 g' with
        | some i' =>
          rw [backAt_some hi'] at hb'
          exact hR1.apart i i' b b' c2 e1 (fun e => hne (inv_inj hc hi (e ▸ hi'))) hb hb' hrow1 hnb hnb' hblk
        | none =>
          rw [backAt_none hi'] at hb'
          split at hb'
          · rcases hLe.turn b.blk ⟨i, b, c2, e1, hb, hrow1, hnb, rfl⟩ with h | h
            · exact hother _ h g' b' hi' hb' hnb' hblk.symm
            · have := hR.blk_lt hb' hnb'; omega
          · cases hb'
      | none =>
        rw [backAt_none hi] at hb
        split at hb
        · rename_i hg
          unfold Heap.row at hrow
          rw [hrows.none_ g hi hg] at hrow
          cases hi' : inv D ρ H H1 g' with
          | none =>
            rw [backAt_none hi'] at hb'
            split at hb'
            · exact hR.apart g g' b b' c1 e1 hne hb hb' hrow hnb hnb' hblk
            · cases hb'
          | some i' =>
            rw [backAt_some hi'] at hb'
            by_cases hg' : g' < H.n
            · obtain ⟨bs, c3, e3, hβ', _, hat', _, hlt⟩ := hmine g' i' hg' hi'
              rcases hLe.keeps.1 i' (by rw [D.heap_n]; exact hlt) with h | h
              · rw [h, hat'] at hb'
                cases hb'
                exact hR.apart g g' b b' c1 e1 hne hb hβ' hrow hnb hnb' hblk
              · rw [h] at hb'; cases hb'
            · -- a new row
              have hm := newRows_mem.1 (List.mem_of_getElem? (show (newRows ρ D.rows.length H1.n)[g' - H.n]? = some i' by unfold inv at hi'; rwa [if_neg hg'] at hi'))
              by_cases hge : D.rows.length ≤ i'
              · obtain ⟨c2, e2, ro2, hrow2, _⟩ := hR1.lies i' b' hb'
                cases ro2 with
                | false =>
                  rcases hLe.turn b'.blk ⟨i', b', c2, e2, hb', hrow2, hnb', rfl⟩ with h | h
                  · exact hother _ h g b hi hb hnb hblk
                  · have := hR.blk_lt hb hnb; omega
                | true =>
                  exfalso
                  obtain ⟨o', ho', hbo⟩ := hrows.some_ g' i' hi'
                  unfold Heap.row at hrow2
                  cases ho : H1.get i' with
                  | none => rw [ho] at hrow2; cases hrow2
                  | some o =>
                    rw [ho] at hrow2 hbo
                    obtain ⟨_, _, _, _, hl2⟩ := hR1.lies i' b' hb'
                    rename_i hr3
                    unfold Heap.row at hr3
                    rw [ho] at hr3
                    obtain ⟨c4, h4, _⟩ := backO_lies himm hkn hbo (show o.row = _ from hr3) hl2
                    have hr2 : o.row = some (c2, e2, true) := hrow2
                    have hr3' : o.row = some _ := hr3
                    rw [hr2] at hr3'
                    cases hr3'
                    exact hrows.new g' i' hi' hge c4 e2 (by unfold Heap.row; rw [ho']; exact h4)
              · -- a row that was nothing
                have hlt : i' < D.rows.length := by omega
                rcases hm.2 with h | h
                · omega
                · have hr : D.rows[i']? = some D.rows[i'] := List.getElem?_eq_getElem hlt
                  obtain ⟨s, bs, hs, hbs, _⟩ := hc.row i' _ hr (hnd _ (List.mem_of_getElem? hr))
                  rw [h] at hs
                  cases hs
                  have h5 : B i' = some (nilBase 0) := hc.okB i' _ h
                  rcases hLe.keeps.1 i' (by rw [D.heap_n]; exact hlt) with h6 | h6
                  · rw [h6, hat i' _ hr, h5] at hb'
                    cases hb'
                    cases hnb'
                  · rw [h6] at hb'; cases hb'
        · cases hb
    immw := hR1.immw
    immm := fun b o c hbc hm => by
      obtain ⟨g, b1, c1, e1, hb1, hrow, hnb, rfl⟩ := hm
      cases hi : inv D ρ H H1 g with
      | some i =>
        rw [backAt_some hi] at hb1
        obtain ⟨o', ho', hbo⟩ := hrows.some_ g i hi
        unfold Heap.row at hrow
        rw [ho'] at hrow
        obtain ⟨ob, c2, ho, hro⟩ := backO_row hbo (show o'.row = _ from hrow)
        exact hR1.immm _ _ _ hbc ⟨i, b1, c2, e1, hb1, by unfold Heap.row; rw [ho]; exact hro, hnb, rfl⟩
      | none =>
        rw [backAt_none hi] at hb1
        split at hb1
        · rename_i hg
          unfold Heap.row at hrow
          rw [hrows.none_ g hi hg] at hrow
          rcases hLe.imm _ _ _ hbc with h | h | h
          · exact hR.immm _ _ _ h ⟨g, b1, c1, e1, hb1, hrow, hnb, rfl⟩
          · exact hother _ h g b1 hi hb1 hnb rfl
          · have := hR.blk_lt hb1 hnb; omega
        · cases hb1
    glob := hR1.glob
    fro := fun g t l e b hg hb hnb k v hv => by
      cases hi : inv D ρ H H1 g with
      | some i =>
        obtain ⟨o', ho', hbo⟩ := hrows.some_ g i hi
        rw [ho'] at hg
        cases hg
        exact absurd hbo backO_fro
      | none =>
        have hb0 := hb
        rw [backAt_none hi] at hb
        split at hb
        · rename_i hlt
          rw [hrows.none_ g hi hlt] at hg
          obtain ⟨c, hc, hr⟩ := hR.fro g t l e b hg hb hnb k v hv
          exact ⟨c, hKeep.2 _ _ _ hc, hr.mono hn hKeep⟩
        · cases hb }
  refine ⟨hRel, ?_, fun v v' c hb hv => back_sound himm hkn hb hv⟩
  exact {
    os := hLe.os
    tape := hLe.tape
    output := hLe.output
    size := hLe.size
    n := hn
    keeps := hKeep
    ro := fun g c1 e1 hrow => by
      have hg := hR.row_lt hrow
      cases hi : inv D ρ H H1 g with
      | some i =>
        obtain ⟨bs, c2, e2, _, _, _, hrow2, _⟩ := hmine g i hg hi
        rw [hrow] at hrow2
        cases hrow2
      | none =>
        refine ⟨by rw [backAt_none hi, if_pos hg], c1, e1, ?_⟩
        unfold Heap.row at hrow ⊢
        rw [hrows.none_ g hi hg]
        exact hrow
    imm := fun b o c hbc => by
      rcases hLe.imm b o c hbc with h | h | h
      · exact .inl h
      · exact .inr (.inl (hc.muts _ h))
      · exact .inr (.inr h)
    blocks := fun k hk hm => hLe.blocks k hk fun h => hm (hc.muts k h)
    turn := fun k hk => by
      obtain ⟨g, b1, c1, e1, hb1, hrow, hnb, rfl⟩ := hk
      cases hi : inv D ρ H H1 g with
      | some i =>
        rw [backAt_some hi] at hb1
        obtain ⟨o', ho', hbo⟩ := hrows.some_ g i hi
        unfold Heap.row at hrow
        rw [ho'] at hrow
        obtain ⟨ob, c2, ho, hro⟩ := backO_row hbo (show o'.row = _ from hrow)
        rcases hLe.turn b1.blk ⟨i, b1, c2, e1, hb1, by unfold Heap.row; rw [ho]; exact hro, hnb, rfl⟩ with h | h
        · exact .inl (hc.muts _ h)
        · exact .inr h
      | none =>
        rw [backAt_none hi] at hb1
        split at hb1
        · rename_i hg
          unfold Heap.row at hrow
          rw [hrows.none_ g hi hg] at hrow
          exact .inl ⟨g, b1, c1, e1, hb1, hrow, hnb, rfl⟩
        · cases hb1 }
end frame
end Go.Vx
