/- A state seen through a pattern is a state. (A help: no statement of the seat is proved here.) -/
import Derived.Test.YtgmlklaehklmoaaVxJ
set_option linter.unusedVariables false
set_option linter.unusedSimpArgs false
namespace Go.Vx

theorem noneOf_spec {g : Nat} : ∀ {l : List (Option Nat × Bool)}, noneOf g l = true → ∀ {j : Nat} {g' : Nat} {b : Bool}, l[j]? = some (some g', b) → g ≠ g'
  | [], _, j, g', b, hj => by simp at hj
  | (none, c) :: l, h, j, g', b, hj => by
    cases j with
    | zero => simp at hj
    | succ j => exact noneOf_spec (by simpa only [noneOf] using h) (by simpa using hj)
  | (some g0, c) :: l, h, j, g', b, hj => by
    simp only [noneOf, Bool.and_eq_true, Bool.not_eq_true'] at h
    cases j with
    | zero => simp at hj; rw [← hj.1]; exact Nat.ne_of_beq_eq_false h.1
    | succ j => exact noneOf_spec h.2 (by simpa using hj)
theorem noRw_spec {g : Nat} : ∀ {l : List (Option Nat × Bool)}, noRw g l = true → ∀ {j : Nat} {g' : Nat}, l[j]? = some (some g', true) → g ≠ g'
  | [], _, j, g', hj => by simp at hj
  | (none, c) :: l, h, j, g', hj => by
    cases j with
    | zero => simp at hj
    | succ j => exact noRw_spec (by simpa only [noRw] using h) (by simpa using hj)
  | (some g0, c) :: l, h, j, g', hj => by
    simp only [noRw, Bool.and_eq_true, Bool.not_eq_true'] at h
    cases j with
    | zero =>
      simp at hj
      obtain ⟨rfl, rfl⟩ := hj
      rw [Bool.and_true] at h
      exact Nat.ne_of_beq_eq_false h.1
    | succ j => exact noRw_spec h.2 (by simpa using hj)
theorem injOk_spec : ∀ {l : List (Option Nat × Bool)}, injOk l = true → ∀ {i j : Nat} {g g' : Nat} {b : Bool}, l[i]? = some (some g, true) → l[j]? = some (some g', b) → i ≠ j → g ≠ g'
  | [], _, i, j, g, g', b, hi, hj, hne => by simp at hi
  | (none, c) :: l, h, i, j, g, g', b, hi, hj, hne => by
    cases i with
    | zero => simp at hi
    | succ i =>
      cases j with
      | zero => simp at hj
      | succ j => exact injOk_spec (by simpa only [injOk] using h) (by simpa using hi) (by simpa using hj) (by omega)
  | (some g0, c) :: l, h, i, j, g, g', b, hi, hj, hne => by
    cases c with
    | true =>
      simp only [injOk, Bool.and_eq_true] at h
      cases i with
      | zero =>
        simp at hi
        subst hi
        cases j with
        | zero => exact absurd rfl hne
        | succ j => exact noneOf_spec h.1 (by simpa using hj)
      | succ i =>
        cases j with
        | zero =>
          simp at hj
          rw [← hj.1]
          exact (noneOf_spec h.1 (show l[i]? = some (some g, true) by simpa using hi)).symm
        | succ j => exact injOk_spec h.2 (by simpa using hi) (by simpa using hj) (by omega)
    | false =>
      simp only [injOk, Bool.and_eq_true] at h
      cases i with
      | zero => simp at hi
      | succ i =>
        cases j with
        | zero =>
          simp at hj
          rw [← hj.1]
          exact (noRw_spec h.1 (show l[i]? = some (some g, true) by simpa using hi)).symm
        | succ j => exact injOk_spec h.2 (by simpa using hi) (by simpa using hj) (by omega)
theorem froms_get (ρ : Rho) : ∀ (rs : List RP) (i j : Nat), (froms ρ rs i)[j]? = (rs[j]?).map fun r => bif r.dead? then (none, false) else (Src.row? (ρ.find (i + j)), r.rw)
  | [], i, j => by simp [froms]
  | r :: rs, i, j => by
    cases j with
    | zero => simp [froms]
    | succ j => simp only [froms, List.getElem?_cons_succ, froms_get ρ rs (i + 1) j, show i + 1 + j = i + (j + 1) from by omega]
theorem below_spec {n : Nat} : ∀ {ρ : Rho}, below n ρ = true → ∀ {g : Nat} {s : Src}, ρ.find g = some s → g < n
  | [], _, g, s, hs => by simp [Rho.find] at hs
  | (i, s0) :: ρ, h, g, s, hs => by
    simp only [below, Bool.and_eq_true] at h
    rw [Rho.find_cons] at hs
    split at hs
    · rename_i e; rw [← e]; exact Nat.blt_eq.mp h.1
    · exact below_spec h.2 hs
theorem deads_spec {H : Heap} {ρ : Rho} : ∀ {rs : List RP} {i : Nat}, deads H ρ rs i = true → ∀ {j : Nat} {r : RP}, rs[j]? = some r → r.dead? = true → ∀ {s : Src}, ρ.find (i + j) = some s → ∃ g, s = .whole g ∧ deadOk (H.get g) = true
  | [], i, _, j, r, hr, _, s, _ => by simp at hr
  | r0 :: rs, i, h, j, r, hr, hd, s, hs => by
    simp only [deads, Bool.and_eq_true] at h
    cases j with
    | zero =>
      simp at hr
      subst hr
      rw [Nat.add_zero] at hs
      have h1 := h.1
      rw [hd, hs] at h1
      cases s with
      | whole g => exact ⟨g, rfl, h1⟩
      | win _ _ _ _ => cases h1
      | nil => cases h1
      | inl _ _ => cases h1
    | succ j => exact deads_spec h.2 (by simpa using hr) hd (by rwa [show i + 1 + j = i + (j + 1) from by omega])

/-- Where the rows of a pattern lie. -/
def Dom.at_ (D : Dom) (β : At) (B : Nat → Option Base) : At := { base := fun i => if D.live i = true then B i else none, imm := β.imm }

theorem Dom.row_eq (D : Dom) (x : D.den) (i : Nat) : (D.heap x).row i = (encRs D.rows x.1 (D.len x))[i]?.bind AObj.row := by unfold Heap.row; rw [D.heap_get]
theorem encRs_dead : ∀ (rs : List RP) (x : rowsDen rs) (len : Nat → Nat) (i : Nat) (r : RP), rs[i]? = some r → r.dead? = true → (encRs rs x len)[i]?.bind AObj.row = none
  | [], _, _, i, r, h, _ => by simp at h
  | r0 :: rs, x, len, i, r, h, hd => by
    cases i with
    | zero =>
      simp at h
      subst h
      cases r0 <;> simp [RP.dead?] at hd
      simp [encRs, encR, AObj.row]
    | succ i => simpa [encRs] using encRs_dead rs x.2 len i r (by simpa using h) hd
theorem encRs_fro (t : Ty) (l : List t.den) (e : TypeId) : ∀ (rs : List RP) (x : rowsDen rs) (len : Nat → Nat) (i : Nat), (encRs rs x len)[i]? ≠ some (.fro t l e)
  | [], x, len, i, h => by simp [encRs] at h
  | r :: rs, x, len, i, h => by
    cases i with
    | zero => cases r <;> simp [encRs, encR] at h
    | succ i => exact encRs_fro t l e rs x.2 len i (by simpa [encRs] using h)
theorem lens_dead : ∀ (rs : List RP) (x : rowsDen rs) (i : Nat) (r : RP), rs[i]? = some r → r.dead? = true → lens rs x i = 0
  | [], _, i, r, h, _ => by simp at h
  | r0 :: rs, x, i, r, h, hd => by
    cases i with
    | zero =>
      simp at h
      subst h
      cases r0 <;> simp [RP.dead?] at hd
      rfl
    | succ i => exact lens_dead rs x.2 i r (by simpa using h) hd

section cast
variable {H : Heap} {β : At} {w : World}

/-- What a view has. -/
structure Cast (D : Dom) (x : D.den) (H : Heap) (β : At) (w : World) (ρ : Rho) (B : Nat → Option Base) (cs : List Value) : Prop where
  okB : OkB H.n β ρ B
  rel : Rel (D.at_ β B) (D.heap x) w
  args : VsRel D.rows.length (D.at_ β B) (D.args x) cs
  muts : ∀ k, Mut (D.at_ β B) (D.heap x) k → Mut β H k
  row : ∀ i r, D.rows[i]? = some r → r.dead? = false → ∃ s bs, ρ.find i = some s ∧ B i = some bs ∧ (∃ cs e, (D.heap x).row i = some (cs, e, !r.rw)) ∧ Whose H β s bs ∧ (r.rw = true → Mine H β s bs)
  inj : injOk (froms ρ D.rows 0) = true
  dead : ∀ i r, D.rows[i]? = some r → r.dead? = true → ∀ s, ρ.find i = some s → ∃ g, s = .whole g ∧ deadOk (H.get g) = true

theorem cast_sound (hR : Rel β H w) {D : Dom} {vs : List AV} {ρ0 ρ : Rho} {x : D.den} (h : D.mat vs H ρ0 = some (x, ρ)) {cs : List Value} (hv : VsRel H.n β vs cs) {B0 : Nat → Option Base} (h0 : OkB H.n β ρ0 B0) :
    ∃ B, Cast D x H β w ρ B cs ∧ Ext ρ0 ρ ∧ ∀ g s, ρ0.find g = some s → B g = B0 g := by
  unfold Dom.mat at h
  split at h
  · rename_i xv ρ1 h1
    split at h
    · rename_i xr ρ2 h2
      split at h
      · rename_i hc
        cases h
        obtain ⟨hbelow, hinj, hdead, hslsOk⟩ := hc
        obtain ⟨e1, B1, o1, k1, c1, c2, rfl, r1, f1⟩ := matV_sound hR D.vals h1 hv h0
        cases r1
        rw [List.append_nil]
        obtain ⟨e2, B2, o2, k2, g2⟩ := matRs_sound hR D.rows h2 o1
        have hq : ∀ i r, D.rows[i]? = some r → r.dead? = false → ∃ s bs, ρ.find i = some s ∧ B2 i = some bs ∧ (∀ β1 n1 len, View H β ρ B2 β1 n1 len → ∃ cs e, ((encRs D.rows xr len)[i]?.bind AObj.row) = some (cs, e, !r.rw) ∧ Lies n1 β1 w cs (!r.rw) bs) ∧ Whose H β s bs ∧ (r.rw = true → Mine H β s bs) ∧ LenOk H s (lens D.rows xr i) := by
          intro i r hr hd
          have := g2 i r hr hd
          simpa only [Nat.zero_add] using this
        have hdd : ∀ i r, D.rows[i]? = some r → r.dead? = true → ∀ s, ρ.find i = some s → ∃ g, s = .whole g ∧ deadOk (H.get g) = true := fun i r hr hd s hs => deads_spec hdead hr hd (by rwa [Nat.zero_add])
        let len' : Nat → Nat := fun g => match D.live g, ρ.find g with
          | false, some (.whole g') => match H.get g' with
            | some (.vec t l _ _) => l.length
            | _ => 0
          | _, _ => D.len (xr, xv) g
        have hlen' : ∀ g, D.live g = true → len' g = D.len (xr, xv) g := fun g hg => by simp only [len', hg]
        have hall : ∀ g, g ∈ D.vals.sls ++ rsSls D.rows → len' g = D.len (xr, xv) g := fun g hg => hlen' g (List.all_eq_true.1 hslsOk g hg)
        have hvE : encV D.vals xv len' = encV D.vals xv (D.len (xr, xv)) := encV_congr _ _ _ _ fun g hg => hall g (List.mem_append_left _ hg)
        have hrE : encRs D.rows xr len' = encRs D.rows xr (D.len (xr, xv)) := encRs_congr _ _ _ _ fun g hg => hall g (List.mem_append_right _ hg)
        have hview : View H β ρ B2 (D.at_ β B2) D.rows.length len' := by
          refine ⟨fun _ _ _ h => h, fun g s hs => ?_⟩
          have hlt := below_spec hbelow hs
          have hr : D.rows[g]? = some D.rows[g] := List.getElem?_eq_getElem hlt
          refine ⟨hlt, ?_, ?_⟩
          · show (if D.live g = true then B2 g else none) = B2 g ∨ (if D.live g = true then B2 g else none) = none
            by_cases hl : D.live g = true
            · rw [if_pos hl]; exact .inl rfl
            · rw [if_neg hl]; exact .inr rfl
          · cases hd : D.rows[g].dead? with
            | false =>
              obtain ⟨s', bs, hs', _, _, _, _, hl⟩ := hq g _ hr hd
              rw [hs] at hs'
              cases hs'
              rw [hlen' g (by unfold Dom.live; rw [hr]; simp [hd])]
              exact hl
            | true =>
              obtain ⟨g', rfl, hok⟩ := hdd g _ hr hd s hs
              have hld : D.live g = false := by unfold Dom.live; rw [hr]; simp [hd]
              intro z n hzn
              unfold rowLen at hzn
              simp only [len', hld, hs]
              split at hzn
              · rename_i t l e ro hg
                rw [hg]
                split at hzn
                · simpa using hzn
                · cases hzn
              · cases hzn
        have hview1 : ∀ i r, D.rows[i]? = some r → r.dead? = false → ∀ bs, B2 i = some bs → ∃ cs e, ((encRs D.rows xr (D.len (xr, xv)))[i]?.bind AObj.row) = some (cs, e, !r.rw) ∧ Lies D.rows.length (D.at_ β B2) w cs (!r.rw) bs := fun i r hr hd bs hbs => by
          obtain ⟨s, bs', hs, hbs', q1, _⟩ := hq i r hr hd
          rw [hbs] at hbs'
          cases hbs'
          have := q1 _ _ _ hview
          rwa [hrE] at this
        have hlive : ∀ i b, (D.at_ β B2) i = some b → ∃ r, D.rows[i]? = some r ∧ r.dead? = false ∧ B2 i = some b := by
          intro i b hb
          have hb : (if D.live i = true then B2 i else none) = some b := hb
          split at hb
          · rename_i hl
            unfold Dom.live at hl
            split at hl
            · rename_i r hr; exact ⟨r, hr, by simpa using hl, hb⟩
            · cases hl
          · cases hb
        have hat : ∀ i r, D.rows[i]? = some r → r.dead? = false → (D.at_ β B2) i = B2 i := by
          intro i r hr hd
          show (if D.live i = true then B2 i else none) = B2 i
          rw [if_pos (by unfold Dom.live; rw [hr]; simp [hd])]
        have hrow : ∀ i cs e ro, (D.heap (xr, xv)).row i = some (cs, e, ro) → ∃ r, D.rows[i]? = some r ∧ r.dead? = false ∧ ro = !r.rw := by
          intro i cs e ro hi
          rw [D.row_eq] at hi
          cases hr : D.rows[i]? with
          | none =>
            have : D.rows.length ≤ i := List.getElem?_eq_none_iff.1 hr
            rw [List.getElem?_eq_none (by rw [encRs_length]; exact this)] at hi
            cases hi
          | some r =>
            cases hd : r.dead? with
            | true => rw [encRs_dead _ _ _ _ _ hr hd] at hi; cases hi
            | false =>
              obtain ⟨s, bs, _, hbs1, q1, _⟩ := hq i r hr hd
              obtain ⟨cs', e', hrow', _⟩ := hview1 i r hr hd bs hbs1
              have hi' : (encRs D.rows xr (D.len (xr, xv)))[i]?.bind AObj.row = some (cs, e, ro) := hi
              rw [hrow'] at hi'
              cases hi'
              exact ⟨r, rfl, hd, rfl⟩
        have hmut : ∀ k, Mut (D.at_ β B2) (D.heap (xr, xv)) k → Mut β H k := by
          rintro k ⟨i, b, cs, e, hb, hr0, hn, rfl⟩
          obtain ⟨r, hr, hd, hBi⟩ := hlive i b hb
          obtain ⟨r', hr', hd', hrw⟩ := hrow i cs e false hr0
          rw [hr] at hr'
          cases hr'
          obtain ⟨s, bs, hs, hbs, _, _, hmine, _⟩ := hq i r hr hd
          rw [hBi] at hbs
          cases hbs
          rcases hmine (by simpa using hrw) with ⟨_, h⟩ | ⟨g, cs', e', _, hg, hrow'⟩
          · rw [hn] at h; cases h
          · exact ⟨g, b, cs', e', hg, hrow', hn, rfl⟩
        have hargs : VsRel D.rows.length (D.at_ β B2) (D.args (xr, xv)) c1 := by
          have := f1 _ _ _ (hview.less e2 k2)
          rw [hvE] at this
          exact (Dom.args_eq D (xr, xv)) ▸ this
        refine ⟨B2, ⟨o2, ?_, hargs, hmut, fun i r hr hd => ?_, hinj, hdd⟩, e1.trans e2, fun g s hs => by rw [k2 g s (e1 g s hs), k1 g s hs]⟩
        · exact {
            lies := fun i b hb => by
              obtain ⟨r, hr, hd, hBi⟩ := hlive i b hb
              obtain ⟨s, bs, hs, hbs, q1, _⟩ := hq i r hr hd
              rw [hBi] at hbs
              cases hbs
              obtain ⟨cs, e, h1, h2⟩ := hview1 i r hr hd _ hBi
              exact ⟨cs, e, _, by rw [D.row_eq]; exact h1, by rw [D.heap_n]; exact h2⟩
            tot := fun i cs e ro hi => by
              obtain ⟨r, hr, hd, _⟩ := hrow i cs e ro hi
              obtain ⟨s, bs, hs, hbs, _⟩ := hq i r hr hd
              exact ⟨bs, by rw [hat i r hr hd]; exact hbs⟩
            fresh := fun i o ho => by
              rw [D.heap_get] at ho
              rw [D.heap_n, ← encRs_length D.rows xr (D.len (xr, xv))]
              exact (List.getElem?_eq_some_iff.1 ho).1
            apart := fun i j b b' cs e hne hb hb' hr0 hn hn' hblk => by
              obtain ⟨r, hr, hd, hBi⟩ := hlive i b hb
              obtain ⟨r2, hr2, hd2, hBj⟩ := hlive j b' hb'
              obtain ⟨r', hr', _, hrw⟩ := hrow i cs e false hr0
              rw [hr] at hr'
              cases hr'
              obtain ⟨s, bs, hs, hbs, _, _, hmine, _⟩ := hq i r hr hd
              obtain ⟨s2, bs2, hs2, hbs2, _, hwhose, _, _⟩ := hq j r2 hr2 hd2
              rw [hBi] at hbs
              cases hbs
              rw [hBj] at hbs2
              cases hbs2
              have hrw' : r.rw = true := by simpa using hrw
              rcases hmine hrw' with ⟨_, h⟩ | ⟨g, cs', e', hsg, hg, hrow'⟩
              · rw [hn] at h; cases h
              · rcases hwhose with h | ⟨g2, b2, hsg2, hg2, hn2, hblk2⟩ | ⟨o, c, hc⟩
                · rw [hn'] at h; cases h
                · have hi1 : (froms ρ D.rows 0)[i]? = some (some g, true) := by rw [froms_get, hr]; simp [hd, hs, hsg, hrw']
                  have hj1 : (froms ρ D.rows 0)[j]? = some (some g2, r2.rw) := by rw [froms_get, hr2]; simp [hd2, hs2, hsg2]
                  have hgg := injOk_spec hinj hi1 hj1 hne
                  exact hR.apart g g2 b b2 cs' e' hgg hg hg2 hrow' hn hn2 (by rw [hblk, hblk2])
                · exact hR.immm _ _ _ hc ⟨g, b, cs', e', hg, hrow', hn, hblk⟩
            immw := hR.immw
            immm := fun b o c hc hm => hR.immm b o c hc (hmut b hm)
            glob := hR.glob
            fro := fun g t l e b hg => by
              rw [Dom.heap_get] at hg
              exact absurd hg (encRs_fro _ _ _ _ _ _ _) }
        · obtain ⟨s, bs, hs, hbs, q1, q2, q3, _⟩ := hq i r hr hd
          obtain ⟨cs, e, h1, _⟩ := hview1 i r hr hd bs hbs
          exact ⟨s, bs, hs, hbs, ⟨cs, e, by rw [D.row_eq]; exact h1⟩, q2, q3⟩
      · cases h
    · cases h
  · cases h

/-! Inside a call: the rows that it began with keep their numbers. -/
def keepK : Nat → Rho
  | 0 => []
  | k + 1 => (k, .whole k) :: keepK k
theorem keepK_find : ∀ (k g : Nat), (keepK k).find g = if g < k then some (.whole g) else none
  | 0, g => by simp [keepK, Rho.find]
  | k + 1, g => by
    rw [keepK, Rho.find_cons, keepK_find k]
    by_cases e : k = g
    · subst e; simp
    · rw [if_neg e]
      by_cases h : g < k
      · rw [if_pos h, if_pos (by omega)]
      · rw [if_neg h, if_neg (by omega)]

theorem recast (hR : Rel β H w) {D : Dom} {vs : List AV} {K : Nat} {ρ : Rho} {x : D.den} (h : D.mat vs H (keepK K) = some (x, ρ)) (hK : K ≤ D.rows.length) {cs : List Value} (hv : VsRel H.n β vs cs) {S : Start} (hSK : S.H.n = K) (hS : S.le β H w) :
    ∃ β1, Rel β1 (D.heap x) w ∧ S.le β1 (D.heap x) w ∧ VsRel (D.heap x).n β1 (D.args x) cs := by
  obtain ⟨B, hc, hext, hB⟩ := cast_sound hR h hv (B0 := β) (fun g s hs => by
    rw [keepK_find] at hs
    split at hs
    · cases hs; rfl
    · cases hs)
  have hf : ∀ g, g < K → ρ.find g = some (.whole g) ∧ B g = β g := fun g hg => by
    have h1 : (keepK K).find g = some (.whole g) := by rw [keepK_find, if_pos hg]
    exact ⟨hext _ _ h1, hB _ _ h1⟩
  refine ⟨D.at_ β B, hc.rel, ?_, by rw [D.heap_n]; exact hc.args⟩
  refine ⟨hS.os, hS.tape, hS.output, hS.size, by rw [D.heap_n, hSK]; exact hK, ⟨fun g hg => ?_, hS.keeps.2⟩, fun g cs' e hro => ?_, hS.imm, hS.blocks, fun k hk => hS.turn k (hc.muts k hk)⟩
  · rw [hSK] at hg
    have hBg := (hf g hg).2
    show (if D.live g = true then B g else none) = _ ∨ (if D.live g = true then B g else none) = none
    by_cases hl : D.live g = true
    · rw [if_pos hl, hBg]; exact hS.keeps.1 g (by omega)
    · rw [if_neg hl]; exact .inr rfl
  · obtain ⟨h1, cs1, e1, h2⟩ := hS.ro g cs' e hro
    have hg : g < K := by
      rw [← hSK]
      unfold Heap.row at hro
      cases ho : S.H.get g with
      | none => rw [ho] at hro; cases hro
      | some o => exact S.fresh g o ho
    obtain ⟨hfg, hBg⟩ := hf g hg
    have hr : D.rows[g]? = some D.rows[g] := List.getElem?_eq_getElem (by omega)
    have hd : D.rows[g].dead? = false := by
      cases hd : D.rows[g].dead? with
      | false => rfl
      | true =>
        obtain ⟨g', hg', hok⟩ := hc.dead g _ hr hd _ hfg
        cases hg'
        unfold Heap.row at h2
        cases ho : H.get g with
        | none => rw [ho] at h2; cases h2
        | some o =>
          rw [ho] at h2 hok
          cases o with
          | dead => cases h2
          | cells c e ro =>
            simp only [Option.bind_some, AObj.row, Option.some.injEq, Prod.mk.injEq] at h2
            rw [h2.2.2] at hok
            cases hok
          | vec t l e ro =>
            simp only [Option.bind_some, AObj.row, Option.some.injEq, Prod.mk.injEq] at h2
            rw [h2.2.2] at hok
            cases hok
          | fro t l e => cases hok
    obtain ⟨s, bs, hs, hbs, ⟨cs2, e2, hrow⟩, _, hmine⟩ := hc.row g _ hr hd
    rw [hfg] at hs
    cases hs
    refine ⟨?_, cs2, e2, ?_⟩
    · show (if D.live g = true then B g else none) = _
      rw [if_pos (by unfold Dom.live; rw [hr]; simp [hd]), hBg]
      exact h1
    · have hrw : D.rows[g].rw = false := by
        cases hrw : D.rows[g].rw with
        | false => rfl
        | true =>
          rcases hmine hrw with ⟨h, _⟩ | ⟨g', cs3, e3, hs3, _, h3⟩
          · cases h
          · simp only [Src.row?, Option.some.injEq] at hs3
            subst hs3
            rw [h2] at h3
            cases h3
      rw [hrow, hrw]
      rfl
end cast
end Go.Vx
