/- What a call does to few rows it does to them among many. (A help: no statement of the seat is proved here.) -/
import Derived.Test.YtgmlklaehklmoaaVxK
set_option linter.unusedVariables false
set_option linter.unusedSimpArgs false
namespace Go.Vx

/-! The way back. -/
def isNil (ρ : Rho) (i : Nat) : Bool := match ρ.find i with
  | some .nil => true
  | _ => false
/-- The rows that are new behind the call. -/
def newRows (ρ : Rho) (n1 N1 : Nat) : List Nat := (List.range N1).filter fun i => Nat.ble n1 i || isNil ρ i
/-- Rows of which the cells may have been written: where they come from. -/
def rwRows (ρ : Rho) : List RP → Nat → List (Nat × Nat)
  | [], _ => []
  | r :: rs, i => match r.rw, Src.row? (ρ.find i) with
    | true, some g => (g, i) :: rwRows ρ rs (i + 1)
    | _, _ => rwRows ρ rs (i + 1)
def idx (i : Nat) : List Nat → Nat
  | [] => 0
  | j :: l => bif Nat.beq i j then 0 else idx i l + 1
/-- Where a row is to be found. -/
inductive Dest where
  | row (g : Nat)
  | win (g e z : Nat)
  | inl (t : Ty) (l : List t.den)
structure Way where
  ρ : Rho
  n1 : Nat
  N : Nat
  new : List Nat
def Way.to (W : Way) (i : Nat) : Option Dest :=
  match (bif Nat.blt i W.n1 then W.ρ.find i else some .nil) with
  | some (.whole g) => some (.row g)
  | some (.win g e _ z) => some (.win g e z)
  | some .nil => some (.row (W.N + idx i W.new))
  | some (.inl t l) => some (.inl t l)
  | none => none
mutual
def back (W : Way) : AV → Option AV
  | .ptr t none => some (.ptr t none)
  | .ptr t (some r) => match W.to r.g with
    | some (.row g) => some (.ptr t (some ⟨g, r.e, r.z, r.o⟩))
    | some (.win g e z) => if r.z = z then some (.ptr t (some ⟨g, e + r.e, r.z, r.o⟩)) else none
    | some (.inl t' l) => if r.z = t'.z then some (.eptr t' l r.e r.o) else none
    | none => none
  | .slice t none n z => some (.slice t none n z)
  | .slice t (some r) n z => match W.to r.g with
    | some (.row g) => some (.slice t (some ⟨g, r.e, r.z, r.o⟩) n z)
    | some (.win g e z') => if r.z = z' then some (.slice t (some ⟨g, e + r.e, r.z, r.o⟩) n z) else none
    | some (.inl t' l) => if r.z = t'.z ∧ r.o = 0 ∧ z = t'.z ∧ r.e + n ≤ l.length then some (.vec t' ((l.drop r.e).take n)) else none
    | none => none
  | .agg l => (backL W l).map .agg
  | .tup l => (backL W l).map .tup
  | .func f a b => match backL W a, backL W b with
    | some a', some b' => some (.func f a' b')
    | _, _ => none
  | v => some v
def backL (W : Way) : List AV → Option (List AV)
  | [] => some []
  | v :: l => match back W v, backL W l with
    | some v', some l' => some (v' :: l')
    | _, _ => none
end
def backO (W : Way) : Option AObj → Option AObj
  | none => some .dead
  | some .dead => some .dead
  | some (.cells cs e ro) => (backL W cs).map fun cs' => .cells cs' e ro
  | some (.vec t l e ro) => some (.vec t l e ro)
  | some (.fro _ _ _) => none
def backNew (W : Way) (o : Option AObj) : Option AObj := match o with
  | some (.cells cs e false) => (backL W cs).map fun cs' => .cells cs' e false
  | some (.vec t l e false) => some (.vec t l e false)
  | some (.cells _ _ true) => none
  | some (.vec _ _ _ true) => none
  | some (.fro _ _ _) => none
  | _ => some .dead
def setsL : Heap → List (Nat × AObj) → Heap
  | H, [] => H
  | H, (g, o) :: l => (setsL H l).set g o
def objsRw (W : Way) (H1 : Heap) : List (Nat × Nat) → Option (List (Nat × AObj))
  | [] => some []
  | (g, i) :: l => match backO W (H1.get i), objsRw W H1 l with
    | some o, some os => some ((g, o) :: os)
    | _, _ => none
/-- The rows that are new: one that was nothing may be read alone. -/
def roNil (W : Way) (i : Nat) : Bool := Nat.blt i W.n1
def objsNew (W : Way) (H1 : Heap) : List Nat → Option (List AObj)
  | [] => some []
  | i :: l => match (bif roNil W i then backO W (H1.get i) else backNew W (H1.get i)), objsNew W H1 l with
    | some o, some os => some (o :: os)
    | _, _ => none
def backH (D : Dom) (ρ : Rho) (H H1 : Heap) : Option Heap :=
  match objsRw ⟨ρ, D.rows.length, H.n, newRows ρ D.rows.length H1.n⟩ H1 (rwRows ρ D.rows 0), objsNew ⟨ρ, D.rows.length, H.n, newRows ρ D.rows.length H1.n⟩ H1 (newRows ρ D.rows.length H1.n) with
  | some L, some NL => some (pushes (setsL H L) NL)
  | _, _ => none
def wayOf (D : Dom) (ρ : Rho) (H H1 : Heap) : Way := ⟨ρ, D.rows.length, H.n, newRows ρ D.rows.length H1.n⟩

theorem idx_spec {i : Nat} : ∀ {l : List Nat}, i ∈ l → l[idx i l]? = some i
  | [], h => by simp at h
  | j :: l, h => by
    by_cases e : i = j
    · subst e; simp [idx]
    · have h' : i ∈ l := by simpa [e] using h
      rw [idx, nbeq_no e, cond_false, List.getElem?_cons_succ]
      exact idx_spec h'
theorem newRows_mem {ρ : Rho} {n1 N1 i : Nat} : i ∈ newRows ρ n1 N1 ↔ i < N1 ∧ (n1 ≤ i ∨ ρ.find i = some .nil) := by
  unfold newRows
  rw [List.mem_filter, List.mem_range]
  have : isNil ρ i = true ↔ ρ.find i = some .nil := by
    unfold isNil
    split
    · rename_i h; simp [h]
    · rename_i h; constructor
      · intro h'; cases h'
      · intro h'; exact absurd h' h
  simp [this]
theorem newRows_nodup (ρ : Rho) (n1 N1 : Nat) : (newRows ρ n1 N1).Nodup := List.Pairwise.filter _ List.nodup_range
theorem setsL_n (H : Heap) : ∀ L, (setsL H L).n = H.n
  | [] => rfl
  | (g, o) :: l => by simp only [setsL, Heap.n_set, setsL_n H l]
def look (g : Nat) : List (Nat × AObj) → Option AObj
  | [] => none
  | (h, o) :: l => if g = h then some o else look g l
theorem setsL_get (H : Heap) (g : Nat) : ∀ L, (setsL H L).get g = match look g L with
    | some o => some o
    | none => H.get g
  | [] => rfl
  | (h, o) :: l => by
    simp only [setsL, Heap.get_set, look]
    by_cases e : g = h
    · rw [if_pos e, if_pos e]
    · rw [if_neg e, if_neg e]; exact setsL_get H g l
def lookI (g : Nat) : List (Nat × Nat) → Option Nat
  | [] => none
  | (h, i) :: l => if g = h then some i else lookI g l
theorem look_objs {W : Way} {H1 : Heap} {g : Nat} : ∀ {l : List (Nat × Nat)} {L : List (Nat × AObj)}, objsRw W H1 l = some L → (lookI g l = none ∧ look g L = none) ∨ ∃ i o, lookI g l = some i ∧ look g L = some o ∧ backO W (H1.get i) = some o
  | [], L, h => by simp only [objsRw, Option.some.injEq] at h; subst h; exact .inl ⟨rfl, rfl⟩
  | (g0, i) :: l, L, h => by
    simp only [objsRw] at h
    split at h
    · rename_i o os h1 h2
      cases h
      by_cases e : g = g0
      · exact .inr ⟨i, o, by simp [lookI, e], by simp [look, e], h1⟩
      · simp only [lookI, look, if_neg e]
        exact look_objs h2
    · cases h
theorem objsNew_get {W : Way} {H1 : Heap} : ∀ {l : List Nat} {L : List AObj}, objsNew W H1 l = some L → L.length = l.length ∧ ∀ (j i : Nat), l[j]? = some i → ∃ o, L[j]? = some o ∧ (if roNil W i = true then backO W (H1.get i) else backNew W (H1.get i)) = some o
  | [], L, h => by simp only [objsNew, Option.some.injEq] at h; subst h; exact ⟨rfl, fun j i hj => by simp at hj⟩
  | i0 :: l, L, h => by
    simp only [objsNew] at h
    split at h
    · rename_i o os h1 h2
      cases h
      obtain ⟨q1, q2⟩ := objsNew_get h2
      refine ⟨by simp [q1], fun j i hj => ?_⟩
      cases j with
      | zero =>
        simp at hj
        subst hj
        refine ⟨o, rfl, ?_⟩
        rw [← h1]
        cases roNil W i0 <;> rfl
      | succ j => simpa using q2 j i (by simpa using hj)
    · cases h
theorem backNew_O {W : Way} {x : Option AObj} {o : AObj} (h : backNew W x = some o) : backO W x = some o ∧ ∀ cs e, o.row ≠ some (cs, e, true) := by
  unfold backNew at h
  split at h
  · rename_i cs e
    obtain ⟨cs', hc, rfl⟩ := map_some h
    exact ⟨by simp [backO, hc], fun _ _ h => by simp [AObj.row] at h⟩
  · cases h; exact ⟨rfl, fun _ _ h => by simp [AObj.row] at h⟩
  · cases h
  · cases h
  · cases h
  · rename_i h1 h2 h3 h4 h5
    cases h
    refine ⟨?_, fun _ _ h => by simp [AObj.row] at h⟩
    cases x with
    | none => rfl
    | some y =>
      cases y with
      | dead => rfl
      | cells cs e ro => cases ro
                         · exact absurd rfl (h1 cs e)
                         · exact absurd rfl (h3 cs e)
      | vec t l e ro => cases ro
                        · exact absurd rfl (h2 t l e)
                        · exact absurd rfl (h4 t l e)
      | fro t l e => exact absurd rfl (h5 t l e)
theorem rwRows_mem {ρ : Rho} {g i : Nat} : ∀ {rs : List RP} {k : Nat}, (g, i) ∈ rwRows ρ rs k ↔ ∃ j r, i = k + j ∧ rs[j]? = some r ∧ r.rw = true ∧ Src.row? (ρ.find i) = some g
  | [], k => by simp [rwRows]
  | r :: rs, k => by
    have ih := rwRows_mem (ρ := ρ) (g := g) (i := i) (rs := rs) (k := k + 1)
    have key : (∃ j r', i = k + j ∧ (r :: rs)[j]? = some r' ∧ r'.rw = true ∧ Src.row? (ρ.find i) = some g) ↔ (i = k ∧ r.rw = true ∧ Src.row? (ρ.find k) = some g) ∨ (g, i) ∈ rwRows ρ rs (k + 1) := by
      rw [ih]
      constructor
      · rintro ⟨j, r', rfl, hr, h1, h2⟩
        cases j with
        | zero => simp at hr; subst hr; exact .inl ⟨rfl, h1, h2⟩
        | succ j => exact .inr ⟨j, r', by omega, by simpa using hr, h1, h2⟩
      · rintro (⟨rfl, h1, h2⟩ | ⟨j, r', rfl, hr, h1, h2⟩)
        · exact ⟨0, r, rfl, rfl, h1, h2⟩
        · exact ⟨j + 1, r', by omega, by simpa using hr, h1, h2⟩
    rw [key]
    simp only [rwRows]
    split
    · rename_i g0 h1 h2
      simp only [List.mem_cons, Prod.mk.injEq]
      constructor
      · rintro (⟨rfl, rfl⟩ | h)
        · exact .inl ⟨rfl, h1, h2⟩
        · exact .inr h
      · rintro (⟨rfl, _, h3⟩ | h)
        · rw [h2] at h3; cases h3; exact .inl ⟨rfl, rfl⟩
        · exact .inr h
    · rename_i hno
      constructor
      · exact .inr
      · rintro (⟨rfl, h1, h2⟩ | h)
        · exact (hno g h1 h2).elim
        · exact h
theorem lookI_mem {g : Nat} : ∀ {l : List (Nat × Nat)}, (∀ i, lookI g l = some i → (g, i) ∈ l) ∧ (lookI g l = none → ∀ i, (g, i) ∉ l)
  | [] => ⟨fun i h => (by cases h), fun _ i h => List.not_mem_nil h⟩
  | (h, j) :: l => by
    obtain ⟨q1, q2⟩ := lookI_mem (g := g) (l := l)
    constructor
    · intro i hi
      simp only [lookI] at hi
      split at hi
      · rename_i e; cases hi; rw [e]; simp
      · exact List.mem_cons_of_mem _ (q1 i hi)
    · intro hi i hm
      simp only [lookI] at hi
      split at hi
      · cases hi
      · rename_i e
        simp only [List.mem_cons, Prod.mk.injEq] at hm
        rcases hm with ⟨h1, _⟩ | hm
        · exact e h1
        · exact q2 hi i hm

section frame
variable {D : Dom} {x : D.den} {H H1 : Heap} {β β1 : At} {w w' : World} {ρ : Rho} {B : Nat → Option Base} {cs : List Value}

/-- Which row of the callee's is a row. -/
def inv (D : Dom) (ρ : Rho) (H H1 : Heap) (g : Nat) : Option Nat := if g < H.n then lookI g (rwRows ρ D.rows 0) else (newRows ρ D.rows.length H1.n)[g - H.n]?
def backAt (D : Dom) (ρ : Rho) (H H1 : Heap) (β β1 : At) : At :=
  { base := fun g => match inv D ρ H H1 g with
      | some i => β1 i
      | none => if g < H.n then β g else none
    imm := β1.imm }
theorem backAt_some {g i : Nat} (h : inv D ρ H H1 g = some i) : (backAt D ρ H H1 β β1) g = β1 i := by
  show (match inv D ρ H H1 g with
      | some i => β1 i
      | none => if g < H.n then β g else none) = _
  rw [h]
theorem backAt_none {g : Nat} (h : inv D ρ H H1 g = none) : (backAt D ρ H H1 β β1) g = if g < H.n then β g else none := by
  show (match inv D ρ H H1 g with
      | some i => β1 i
      | none => if g < H.n then β g else none) = _
  rw [h]

theorem inv_rw {g i : Nat} (hc : Cast D x H β w ρ B cs) (hg : g < H.n) (h : inv D ρ H H1 g = some i) : ∃ r s, D.rows[i]? = some r ∧ r.rw = true ∧ ρ.find i = some s ∧ Src.row? (some s) = some g ∧ i < D.rows.length := by
  unfold inv at h
  rw [if_pos hg] at h
  have hm := lookI_mem.1 i h
  obtain ⟨j, r, e, hr, h1, h2⟩ := rwRows_mem.1 hm
  rw [Nat.zero_add] at e
  subst e
  cases hs : ρ.find i with
  | none => rw [hs] at h2; cases h2
  | some s => exact ⟨r, s, hr, h1, rfl, by rw [hs] at h2; exact h2, (List.getElem?_eq_some_iff.1 hr).1⟩
theorem live_of_rw {r : RP} (h : r.rw = true) : r.dead? = false := by cases r <;> simp [RP.rw, RP.dead?] at h ⊢
/-- A row that may be written is its own row's. -/
theorem rw_inv {i g : Nat} {r : RP} (hc : Cast D x H β w ρ B cs) (hr : D.rows[i]? = some r) (hrw : r.rw = true) (hs : Src.row? (ρ.find i) = some g) (hg : g < H.n) : inv D ρ H H1 g = some i := by
  unfold inv
  rw [if_pos hg]
  cases hl : lookI g (rwRows ρ D.rows 0) with
  | none => exact absurd (rwRows_mem.2 ⟨i, r, by omega, hr, hrw, hs⟩) (lookI_mem.2 hl i)
  | some j =>
    by_cases e : j = i
    · rw [e]
    · exfalso
      obtain ⟨k, r', hk, hr', h1, h2⟩ := rwRows_mem.1 (lookI_mem.1 j hl)
      rw [Nat.zero_add] at hk
      subst hk
      have a1 : (froms ρ D.rows 0)[i]? = some (some g, true) := by rw [froms_get, hr]; simp [live_of_rw hrw, hs, hrw]
      have a2 : (froms ρ D.rows 0)[j]? = some (some g, true) := by rw [froms_get, hr']; simp [live_of_rw h1, h2, h1]
      exact injOk_spec hc.inj a1 a2 (fun e' => e e'.symm) rfl
/-- A row that is read alone is no row that is written. -/
theorem ro_inv {i g : Nat} {r : RP} (hc : Cast D x H β w ρ B cs) (hr : D.rows[i]? = some r) (hd : r.dead? = false) (hrw : r.rw = false) (hs : Src.row? (ρ.find i) = some g) (hg : g < H.n) : inv D ρ H H1 g = none := by
  unfold inv
  rw [if_pos hg]
  cases hl : lookI g (rwRows ρ D.rows 0) with
  | none => rfl
  | some j =>
    exfalso
    obtain ⟨k, r', hk, hr', h1, h2⟩ := rwRows_mem.1 (lookI_mem.1 j hl)
    rw [Nat.zero_add] at hk
    subst hk
    have a1 : (froms ρ D.rows 0)[i]? = some (some g, false) := by rw [froms_get, hr]; simp [hd, hs, hrw]
    have a2 : (froms ρ D.rows 0)[j]? = some (some g, true) := by rw [froms_get, hr']; simp [live_of_rw h1, h2, h1]
    have hne : j ≠ i := by
      intro e
      subst e
      rw [hr] at hr'
      cases hr'
      rw [hrw] at h1
      cases h1
    exact injOk_spec hc.inj a2 a1 hne rfl
theorem new_inv {i : Nat} (hi : i ∈ newRows ρ D.rows.length H1.n) : inv D ρ H H1 (H.n + idx i (newRows ρ D.rows.length H1.n)) = some i := by
  unfold inv
  rw [if_neg (by omega), Nat.add_sub_cancel_left]
  exact idx_spec hi
theorem inv_inj (hc : Cast D x H β w ρ B cs) {g g' i : Nat} (h : inv D ρ H H1 g = some i) (h' : inv D ρ H H1 g' = some i) : g = g' := by
  have hnew : ∀ {g i}, ¬ g < H.n → inv D ρ H H1 g = some i → (newRows ρ D.rows.length H1.n)[g - H.n]? = some i := by
    intro g i hg h
    unfold inv at h
    rwa [if_neg hg] at h
  by_cases hg : g < H.n
  · obtain ⟨r, s, hr, h1, h2, h3, h4⟩ := inv_rw hc hg h
    by_cases hg' : g' < H.n
    · obtain ⟨r', s', hr', _, h2', h3', _⟩ := inv_rw hc hg' h'
      rw [h2] at h2'
      cases h2'
      rw [h3] at h3'
      cases h3'
      rfl
    · exfalso
      have hm := newRows_mem.1 (List.mem_of_getElem? (hnew hg' h'))
      rcases hm.2 with h5 | h5
      · omega
      · rw [h2] at h5; cases h5; cases h3
  · by_cases hg' : g' < H.n
    · exfalso
      obtain ⟨r, s, hr, h1, h2, h3, h4⟩ := inv_rw hc hg' h'
      have hm := newRows_mem.1 (List.mem_of_getElem? (hnew hg h))
      rcases hm.2 with h5 | h5
      · omega
      · rw [h2] at h5; cases h5; cases h3
    · have e := (newRows_nodup ρ D.rows.length H1.n)
      have a := hnew hg h
      have b := hnew hg' h'
      have hlt := (List.getElem?_eq_some_iff.1 a).1
      have hlt' := (List.getElem?_eq_some_iff.1 b).1
      have ea := (List.getElem?_eq_some_iff.1 a).2
      have eb := (List.getElem?_eq_some_iff.1 b).2
      have hp := List.pairwise_iff_getElem.1 e
      rcases Nat.lt_trichotomy (g - H.n) (g' - H.n) with h1 | h1 | h1
      · exact absurd (ea.trans eb.symm) (hp _ _ hlt hlt' h1)
      · omega
      · exact absurd (eb.trans ea.symm) (hp _ _ hlt' hlt h1)

/-- What is known of a callee's row is known of the row. -/
def Known (β1 β' : At) (i : Nat) (H' : Heap) : Dest → Prop
  | .row g => g < H'.n ∧ ∀ b, β' g = some b → β1 i = some b
  | .win g e z => g < H'.n ∧ ∀ b, β' g = some b → (β1 i = some (b.shift (e * z)) ∧ (b.nil = true ∨ e * z ≤ b.room)) ∨ (β1 i = some b ∧ (b.nil = true ∨ e * z = 0))
  | .inl t l => (l = [] ∧ β1 i = some (nilBase 1)) ∨ (∃ (blk off room : Nat) (ds : Nat → Value), β1 i = some ⟨blk, off, room, false⟩ ∧ l.length * t.z ≤ room ∧ ∀ k v, (encL t l)[k]? = some v → β1.imm blk (off + k) = some (ds k) ∧ VRel H'.n β' v (ds k))

theorem known (hR : Rel β H w) (hc : Cast D x H β w ρ B cs) (hR1 : Rel β1 H1 w') (hLe : Le (D.at_ β B) (D.heap x) w β1 H1 w') {H' : Heap} (hn : H'.n = H.n + (newRows ρ D.rows.length H1.n).length) {i : Nat} (hi : i < H1.n) {d : Dest}
    (hnd : ∀ r, r ∈ D.rows → r.dead? = false) (hd : (wayOf D ρ H H1).to i = some d) : Known β1 (backAt D ρ H H1 β β1) i H' d := by
  have hlt : ∀ g, (∃ b, β g = some b) → g < H.n := fun g ⟨b, hb⟩ => by
    obtain ⟨c, e, ro, h, _⟩ := hR.lies g b hb
    exact hR.row_lt h
  have hnewrow : i ∈ newRows ρ D.rows.length H1.n → Known β1 (backAt D ρ H H1 β β1) i H' (.row (H.n + idx i (newRows ρ D.rows.length H1.n))) := by
    intro hm
    have h1 := (List.getElem?_eq_some_iff.1 (idx_spec hm)).1
    refine ⟨by omega, fun b hb => ?_⟩
    rw [backAt_some (new_inv hm)] at hb
    exact hb
  unfold Way.to wayOf at hd
  by_cases hi1 : i < D.rows.length
  · have e1 : Nat.blt i D.rows.length = true := Nat.blt_eq.mpr hi1
    simp only [e1, cond_true] at hd
    have hr : D.rows[i]? = some D.rows[i] := List.getElem?_eq_getElem hi1
    cases hdead : D.rows[i].dead? with
    | true => rw [hnd _ (List.mem_of_getElem? hr)] at hdead; cases hdead
    | false =>
      obtain ⟨s, bs, hs, hbs, ⟨cs', e', hrow⟩, hwhose, hmine⟩ := hc.row i _ hr hdead
      have hsrc := hc.okB i s hs
      have hat : (D.at_ β B) i = some bs := by
        show (if D.live i = true then B i else none) = _
        rw [if_pos (by unfold Dom.live; rw [hr]; simp [hdead]), hbs]
      rw [hs] at hd
      have hkeep : D.rows[i].rw = false → β1 i = some bs := by
        intro hrw
        rw [hrw] at hrow
        rw [(hLe.ro i cs' e' hrow).1]
        exact hat
      cases s with
      | whole g =>
        simp only [Option.some.injEq] at hd
        subst hd
        have hβ : β g = some bs := by rw [← hbs]; exact hsrc.symm
        have hg := hlt g ⟨bs, hβ⟩
        refine ⟨by omega, fun b hb => ?_⟩
        cases hrw : D.rows[i].rw with
        | true =>
          rw [backAt_some (rw_inv hc hr hrw (by rw [hs]; rfl) hg)] at hb
          exact hb
        | false =>
          rw [backAt_none (ro_inv hc hr hdead hrw (by rw [hs]; rfl) hg), if_pos hg, hβ] at hb
          rw [hkeep hrw]
          exact hb
      | win g e n z =>
        simp only [Option.some.injEq] at hd
        subst hd
        have hroom := hsrc.2
        have hsrc : B i = (β g).map fun b => b.shift (e * z) := hsrc.1
        rw [hbs] at hsrc
        cases hβ : β g with
        | none => rw [hβ] at hsrc; cases hsrc
        | some b0 =>
          rw [hβ] at hsrc
          simp only [Option.map_some, Option.some.injEq] at hsrc
          have hg := hlt g ⟨b0, hβ⟩
          refine ⟨by omega, fun b hb => ?_⟩
          cases hrw : D.rows[i].rw with
          | true =>
            rw [backAt_some (rw_inv hc hr hrw (by rw [hs]; rfl) hg)] at hb
            refine .inr ⟨hb, ?_⟩
            -- the window is the whole row
            have hbe : b = bs := by
              rcases hLe.keeps.1 i (by rw [D.heap_n]; exact hi1) with h | h
              · rw [h, hat] at hb; cases hb; rfl
              · rw [h] at hb; cases hb
            rcases hmine hrw with ⟨h, _⟩ | ⟨g', c1, e1, hg', hβ', _⟩
            · cases h
            · simp only [Src.row?, Option.some.injEq] at hg'
              subst hg'
              rw [hβ] at hβ'
              cases hβ'
              rw [hbe]
              by_cases hnil : bs.nil = true
              · exact .inl hnil
              · right
                unfold Base.shift at hsrc
                rw [if_neg hnil] at hsrc
                have := congrArg Base.off hsrc
                simp only at this
                omega
          | false =>
            rw [backAt_none (ro_inv hc hr hdead hrw (by rw [hs]; rfl) hg), if_pos hg, hβ] at hb
            cases hb
            exact .inl ⟨by rw [hkeep hrw, hsrc], hroom _ hβ⟩
      | nil =>
        simp only [Option.some.injEq] at hd
        subst hd
        exact hnewrow (newRows_mem.2 ⟨hi, .inr hs⟩)
      | inl t l =>
        simp only [Option.some.injEq] at hd
        subst hd
        have hrw : D.rows[i].rw = false := by
          cases hrw : D.rows[i].rw with
          | false => rfl
          | true =>
            rcases hmine hrw with ⟨h, _⟩ | ⟨g', c1, e1, hg', _⟩
            · cases h
            · cases hg'
        have hb1 := hkeep hrw
        rcases hsrc with ⟨h1, h2⟩ | ⟨h1, blk, off, room, ds, h2, h3, h4⟩
        · rw [hbs] at h2; cases h2; exact .inl ⟨h1, hb1⟩
        · rw [hbs] at h2
          cases h2
          refine .inr ⟨blk, off, room, ds, hb1, h3, fun k v hv => ⟨hLe.keeps.2 _ _ _ (h4 k v hv).1, ?_⟩⟩
          exact VRel.data (β := β) (β' := backAt D ρ H H1 β β1) (fun b o c hbc => hLe.keeps.2 b o c hbc) (h4 k v hv).2 (encL_data_at hv)
  · have e1 : Nat.blt i D.rows.length = false := by
      cases e : Nat.blt i D.rows.length with
      | false => rfl
      | true => exact absurd (Nat.blt_eq.mp e) hi1
    simp only [e1, cond_false, Option.some.injEq] at hd
    subst hd
    exact hnewrow (newRows_mem.2 ⟨hi, .inl (by omega)⟩)
theorem idBase (b : Base) : b.shift 0 = b := b.shift_zero

mutual
theorem back_sound {N1 : Nat} {β' : At} {W : Way} {H' : Heap} (himm : ∀ b o c, β1.imm b o = some c → β'.imm b o = some c) (hk : ∀ i d, i < N1 → W.to i = some d → Known β1 β' i H' d) : ∀ {v v' : AV} {c : Value}, back W v = some v' → VRel N1 β1 v c → VRel H'.n β' v' c
  | .bool t b, v', c, h, hv => by simp only [back, Option.some.injEq] at h; subst h; exact hv.data himm rfl
  | .int t k n, v', c, h, hv => by simp only [back, Option.some.injEq] at h; subst h; exact hv.data himm rfl
  | .str t s, v', c, h, hv => by simp only [back, Option.some.injEq] at h; subst h; exact hv.data himm rfl
  | .vec t l, v', c, h, hv => by simp only [back, Option.some.injEq] at h; subst h; exact hv.data himm rfl
  | .eptr t l e p, v', c, h, hv => by simp only [back, Option.some.injEq] at h; subst h; exact hv.data himm rfl
  | .map r, v', c, h, hv => by
    simp only [back, Option.some.injEq] at h
    subst h
    cases hv
    exact .mnil
  | .nilFunc, v', c, h, hv => by simp only [back, Option.some.injEq] at h; subst h; cases hv; exact .nilFunc
  | .nilIface, v', c, h, hv => by simp only [back, Option.some.injEq] at h; subst h; cases hv; exact .nilIface
  | .ptr t none, v', c, h, hv => by simp only [back, Option.some.injEq] at h; subst h; cases hv; exact .pnil _
  | .ptr t (some r), v', c, h, hv => by
    cases hv with
    | ptr _ _ a hg hb =>
      simp only [back] at h
      split at h
      · rename_i g hd
        cases h
        obtain ⟨h1, h2⟩ := hk _ _ hg hd
        exact .ptr _ _ _ h1 fun b hb' => hb b (h2 b hb')
      · rename_i g e z hd
        split at h
        · rename_i hz
          cases h
          obtain ⟨h1, h2⟩ := hk _ _ hg hd
          refine .ptr _ _ _ h1 fun b hb' => ?_
          rcases h2 b hb' with ⟨h3, hrm⟩ | ⟨h3, h4⟩
          · obtain ⟨h5, h6⟩ := hb _ h3
            rw [Base.shift_nil] at h5
            refine ⟨h5, ?_⟩
            rw [h6]
            unfold Base.shift
            rw [if_neg (by rw [h5]; simp)]
            simp only [Ref.i, hz, Nat.add_mul, Addr.mk.injEq, true_and, and_true]
            omega
          · obtain ⟨h5, h6⟩ := hb _ h3
            refine ⟨h5, ?_⟩
            rcases h4 with h4 | h4
            · rw [h5] at h4; cases h4
            · rw [h6]
              simp only [Ref.i, hz, Nat.add_mul, h4, Addr.mk.injEq, true_and, and_true]
              omega
        · cases h
      · rename_i t' l hd
        split at h
        · rename_i hz
          cases h
          rcases hk _ _ hg hd with ⟨_, h2⟩ | ⟨blk, off, room, ds, h2, _, h4⟩
          · have := (hb _ h2).1; cases this
          · have := (hb _ h2).2
            rw [this]
            have e : off + r.i = off + (r.e * t'.z + r.o) := by unfold Ref.i; rw [hz]
            simp only [e]
            exact .eptr t' l r.e r.o blk off ds (fun k v hv => himm _ _ _ (h4 k v hv).1) (fun k v hv => (h4 k v hv).2)
        · cases h
      · cases h
  | .slice t none n z, v', c, h, hv => by simp only [back, Option.some.injEq] at h; subst h; cases hv; exact .snil _ _ _
  | .slice t (some r) n z, v', c, h, hv => by
    cases hv with
    | slice _ _ _ _ cap a hg hn hs hb =>
      simp only [back] at h
      split at h
      · rename_i g hd
        cases h
        obtain ⟨h1, h2⟩ := hk _ _ hg hd
        exact .slice _ _ _ _ _ _ h1 hn hs fun b hb' => hb b (h2 b hb')
      · rename_i g e z' hd
        split at h
        · rename_i hz
          cases h
          obtain ⟨h1, h2⟩ := hk _ _ hg hd
          refine .slice _ _ _ _ _ _ h1 hn hs fun b hb' => ?_
          rcases h2 b hb' with ⟨h3, hrm⟩ | ⟨h3, h4⟩
          · obtain ⟨h5, h6⟩ := hb _ h3
            rw [Base.shift_nil] at h5 h6
            refine ⟨fun hnil => ⟨(h5 hnil).1, fun hr => (h5 hnil).2 ?_⟩, fun hnil => ?_⟩
            · unfold Base.shift; rw [if_pos hnil]; exact hr
            · obtain ⟨h7, h8⟩ := h6 hnil
              unfold Base.shift at h7 h8
              rw [if_neg (by rw [hnil]; simp)] at h7 h8
              refine ⟨fun hc => ?_, ?_⟩
              · rw [h7 hc]
                simp only [Ref.i, hz, Nat.add_mul, Option.some.injEq, Addr.mk.injEq, true_and, and_true]
                omega
              · rcases hrm with hrm | hrm
                · rw [hnil] at hrm; cases hrm
                · simp only [Ref.i, hz, Nat.add_mul] at h8 ⊢
                  omega
          · obtain ⟨h5, h6⟩ := hb _ h3
            refine ⟨h5, fun hnil => ?_⟩
            obtain ⟨h7, h8⟩ := h6 hnil
            rcases h4 with h4 | h4
            · rw [hnil] at h4; cases h4
            · have ei : (Ref.mk g (e + r.e) r.z r.o).i = r.i := by simp only [Ref.i, hz, Nat.add_mul, h4]; omega
              rw [ei]
              exact ⟨h7, h8⟩
        · cases h
      · rename_i t' l hd
        split at h
        · rename_i hc
          obtain ⟨hz, ho, hz', hle⟩ := hc
          cases h
          have hlen : ((l.drop r.e).take n).length = n := by simp; omega
          rcases hk _ _ hg hd with ⟨h1, h2⟩ | ⟨blk, off, room, ds, h2, hroom, h4⟩
          · subst h1
            obtain ⟨h5, _⟩ := hb _ h2
            have hn0 := (h5 rfl).1
            subst hn0
            have e0 : (([] : List t'.den).drop r.e).take 0 = [] := by simp
            rw [e0]
            exact .vec t' [] cap a 0 0 (fun _ => undef) (by simp) ⟨fun hc => by simp at hc, hs⟩ (fun k v hv => by simp [encL] at hv) (fun k v hv => by simp [encL] at hv)
          · obtain ⟨_, h6⟩ := hb _ h2
            obtain ⟨h7, h8⟩ := h6 rfl
            have hi : r.i = r.e * t'.z := by unfold Ref.i; rw [hz, ho, Nat.add_zero]
            have hk' : ∀ k v, (encL t' ((l.drop r.e).take n))[k]? = some v → (encL t' l)[r.e * t'.z + k]? = some v := by
              intro k v hv
              rw [encL_take, encL_drop] at hv
              have hlt : k < n * t'.z := by
                have := (List.getElem?_eq_some_iff.1 hv).1
                simp only [List.length_take] at this
                omega
              rwa [List.getElem?_take_of_lt hlt, List.getElem?_drop] at hv
            have key := VRel.vec (N := H'.n) (β := β') t' ((l.drop r.e).take n) cap a blk (off + r.e * t'.z) (fun k => ds (r.e * t'.z + k)) (by rw [hlen]; exact hn) ⟨fun hc => by rw [h7 (by rw [hlen] at hc; omega), hi], hs⟩
              (fun k v hv => by rw [Nat.add_assoc]; exact himm _ _ _ (h4 _ _ (hk' k v hv)).1) (fun k v hv => (h4 _ _ (hk' k v hv)).2)
            rw [hlen] at key
            exact key
        · cases h
      · cases h
  | .agg l, v', c, h, hv => by
    simp only [back] at h
    obtain ⟨l', hl, rfl⟩ := map_some h
    cases hv with
    | agg _ cs hv => exact .agg _ _ (backL_sound himm hk hl hv)
  | .tup l, v', c, h, hv => by
    simp only [back] at h
    obtain ⟨l', hl, rfl⟩ := map_some h
    cases hv with
    | tup _ cs hv => exact .tup _ _ (backL_sound himm hk hl hv)
  | .func f a b, v', c, h, hv => by
    simp only [back] at h
    split at h
    · rename_i a' b' ha hb
      cases h
      cases hv with
      | func _ _ _ cs ds h1 h2 => exact .func _ _ _ _ _ (backL_sound himm hk ha h1) (backL_sound himm hk hb h2)
    · cases h
theorem backL_sound {N1 : Nat} {β' : At} {W : Way} {H' : Heap} (himm : ∀ b o c, β1.imm b o = some c → β'.imm b o = some c) (hk : ∀ i d, i < N1 → W.to i = some d → Known β1 β' i H' d) : ∀ {v v' : List AV} {c : List Value}, backL W v = some v' → VsRel N1 β1 v c → VsRel H'.n β' v' c
  | [], v', c, h, hv => by
    simp only [backL, Option.some.injEq] at h
    subst h
    cases hv
    exact .nil
  | x :: l, v', c, h, hv => by
    simp only [backL] at h
    split at h
    · rename_i x' l' hx hl
      cases h
      cases hv with
      | cons _ c _ cs h1 h2 => exact .cons _ _ _ _ (back_sound himm hk hx h1) (backL_sound himm hk hl h2)
    · cases h
end
end frame
end Go.Vx
