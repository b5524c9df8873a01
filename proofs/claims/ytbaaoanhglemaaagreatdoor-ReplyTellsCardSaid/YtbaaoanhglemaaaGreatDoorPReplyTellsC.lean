/- Printed by a program of ours out of our texts: the evaluator, the printed functions, the plain laws. (A help: no statement of the seat is proved here.) -/
import Derived.Test.YtbaaoanhglemaaaGreatDoorPReplyTellsB
import Derived.OpenShut
import Derived.ReadAgain
import Derived.Test.YtbaaoanhglemaaaGreatDoorChecked
import Derived.KernelRfl
import Derived.Lib.Strings
import Derived.Lib.Slices
import Derived.Lib.Walk
import Derived.Lib.Bytealg
import Derived.Laws.AppendOwn
import Derived.Below
import Derived.Shelf.Strconv.Itoa3
import Derived.Lib.AppendIntMem
import Derived.Shelf.Strings.SplitShaped
import Derived.WideMake
import Derived.MapKept
import Derived.WalkKit
import Derived.Deep.LoopGhost
import Derived.Lib.SliceRun
import Derived.Shelf.RegionOpenPlain
section
set_option linter.unusedVariables false
set_option linter.unusedSimpArgs false
namespace Go.Vx
def isNil (ρ : Rho) (i : Nat) : Bool := match ρ.find i with
 | some .nil => true
 | _ => false
def newRows (ρ : Rho) (n1 N1 : Nat) : List Nat := (List.range N1).filter fun i => Nat.ble n1 i || isNil ρ i
def rwRows (ρ : Rho) : List RP → Nat → List (Nat × Nat)
 | [], _ => []
 | r :: rs, i => match r.rw, Src.row? (ρ.find i) with
  | true, some g => (g, i) :: rwRows ρ rs (i + 1)
  | _, _ => rwRows ρ rs (i + 1)
def idx (i : Nat) : List Nat → Nat
 | [] => 0
 | j :: l => bif Nat.beq i j then 0 else idx i l + 1
inductive Dest where
 | row (g : Nat)
 | win (g e z : Nat)
 | inl (t : Ty) (l : List t.den)
structure Way where
 ρ : Rho
 n1 : Nat
 N : Nat
 new : List Nat
 live : Nat → Bool
def Heap.isLive (H : Heap) (i : Nat) : Bool := match H.get i with
 | none => false
 | some .dead => false
 | some _ => true
theorem Heap.isLive_row {H : Heap} {i : Nat} (h : H.isLive i = true) : ∃ cs e ro, H.row i = some (cs, e, ro) := by
 unfold Heap.isLive at h
 unfold Heap.row
 cases e : H.get i with
 | none => rw [e] at h; cases h
 | some o =>
  rw [e] at h
  cases o with
  | dead => cases h
  | cells cs e ro => exact ⟨_, _, _, rfl⟩
  | vec t l e ro => exact ⟨_, _, _, rfl⟩
  | fro t l e => exact ⟨_, _, _, rfl⟩
def Way.to (W : Way) (i : Nat) : Option Dest :=
 match (bif Nat.blt i W.n1 then (bif W.live i then W.ρ.find i else none) else some .nil) with
 | some (.whole g) => some (.row g)
 | some (.win g e _ z) => some (.win g e z)
 | some .nil => some (.row (W.N + idx i W.new))
 | some (.inl t l) => some (.inl t l)
 | none => none
mutual
def back (W : Way) : AV → Option AV
 | .ptr t none => some (.ptr t none)
 | .ptr t (some r) => match W.to r.g with
  | some (.row g) => some (.ptr t (some ⟨g, r.e, r.z, r.o⟩))
  | some (.win g e z) => if r.z = z then some (.ptr t (some ⟨g, e + r.e, r.z, r.o⟩)) else none
  | some (.inl t' l) => if r.z = t'.z then some (.eptr t' l r.e r.o) else none
  | none => none
 | .slice t none n z => some (.slice t none n z)
 | .slice t (some r) n z => match W.to r.g with
  | some (.row g) => some (.slice t (some ⟨g, r.e, r.z, r.o⟩) n z)
  | some (.win g e z') => if r.z = z' then some (.slice t (some ⟨g, e + r.e, r.z, r.o⟩) n z) else none
  | some (.inl t' l) => if r.z = t'.z ∧ r.o = 0 ∧ z = t'.z ∧ r.e + n ≤ l.length then some (.vec t' ((l.drop r.e).take n)) else none
  | none => none
 | .agg l => (backL W l).map .agg
 | .tup l => (backL W l).map .tup
 | .func f a b => match backL W a, backL W b with
  | some a', some b' => some (.func f a' b')
  | _, _ => none
 | v => some v
def backL (W : Way) : List AV → Option (List AV)
 | [] => some []
 | v :: l => match back W v, backL W l with
  | some v', some l' => some (v' :: l')
  | _, _ => none
end
def backO (W : Way) : Option AObj → Option AObj
 | none => some .dead
 | some .dead => some .dead
 | some (.cells cs e ro) => (backL W cs).map fun cs' => .cells cs' e ro
 | some (.vec t l e ro) => some (.vec t l e ro)
 | some (.fro _ _ _) => none
def backNew (W : Way) (o : Option AObj) : Option AObj := match o with
 | some (.cells cs e false) => (backL W cs).map fun cs' => .cells cs' e false
 | some (.vec t l e false) => some (.vec t l e false)
 | some (.cells _ _ true) => none
 | some (.vec _ _ _ true) => none
 | some (.fro _ _ _) => none
 | _ => some .dead
def setsL : Heap → List (Nat × AObj) → Heap
 | H, [] => H
 | H, (g, o) :: l => (setsL H l).set g o
def objsRw (W : Way) (H1 : Heap) : List (Nat × Nat) → Option (List (Nat × AObj))
 | [] => some []
 | (g, i) :: l => match backO W (H1.get i), objsRw W H1 l with
  | some o, some os => some ((g, o) :: os)
  | _, _ => none
def roNil (W : Way) (i : Nat) : Bool := Nat.blt i W.n1
def objsNew (W : Way) (H1 : Heap) : List Nat → Option (List AObj)
 | [] => some []
 | i :: l => match (bif roNil W i then backO W (H1.get i) else backNew W (H1.get i)), objsNew W H1 l with
  | some o, some os => some (o :: os)
  | _, _ => none
def backH (D : Dom) (ρ : Rho) (H H1 : Heap) : Option Heap :=
 match objsRw ⟨ρ, D.rows.length, H.n, newRows ρ D.rows.length H1.n, H1.isLive⟩ H1 (rwRows ρ D.rows 0), objsNew ⟨ρ, D.rows.length, H.n, newRows ρ D.rows.length H1.n, H1.isLive⟩ H1 (newRows ρ D.rows.length H1.n) with
 | some L, some NL => some (pushes (setsL H L) NL)
 | _, _ => none
def wayOf (D : Dom) (ρ : Rho) (H H1 : Heap) : Way := ⟨ρ, D.rows.length, H.n, newRows ρ D.rows.length H1.n, H1.isLive⟩
theorem idx_spec {i : Nat} : ∀ {l : List Nat}, i ∈ l → l[idx i l]? = some i
 | [], h => by simp at h
 | j :: l, h => by
  by_cases e : i = j
  ·subst e; simp [idx]
  ·have h' : i ∈ l := by simpa [e] using h
   rw [idx, nbeq_no e, cond_false, List.getElem?_cons_succ]
   exact idx_spec h'
theorem newRows_mem {ρ : Rho} {n1 N1 i : Nat} : i ∈ newRows ρ n1 N1 ↔ i < N1 ∧ (n1 ≤ i ∨ ρ.find i = some .nil) := by
 unfold newRows
 rw [List.mem_filter, List.mem_range]
 have : isNil ρ i = true ↔ ρ.find i = some .nil := by
  unfold isNil
  split
  ·rename_i h; simp [h]
  ·rename_i h; constructor
   ·intro h'; cases h'
   ·intro h'; exact absurd h' h
 simp [this]
theorem newRows_nodup (ρ : Rho) (n1 N1 : Nat) : (newRows ρ n1 N1).Nodup := List.Pairwise.filter _ List.nodup_range
theorem setsL_n (H : Heap) : ∀ L, (setsL H L).n = H.n
 | [] => rfl
 | (g, o) :: l => by simp only [setsL, Heap.n_set, setsL_n H l]
def look (g : Nat) : List (Nat × AObj) → Option AObj
 | [] => none
 | (h, o) :: l => if g = h then some o else look g l
theorem setsL_get (H : Heap) (g : Nat) : ∀ L, (setsL H L).get g = match look g L with
  | some o => some o
  | none => H.get g
 | [] => rfl
 | (h, o) :: l => by
  simp only [setsL, Heap.get_set, look]
  by_cases e : g = h
  ·rw [if_pos e, if_pos e]
  ·rw [if_neg e, if_neg e]; exact setsL_get H g l
def lookI (g : Nat) : List (Nat × Nat) → Option Nat
 | [] => none
 | (h, i) :: l => if g = h then some i else lookI g l
theorem look_objs {W : Way} {H1 : Heap} {g : Nat} : ∀ {l : List (Nat × Nat)} {L : List (Nat × AObj)}, objsRw W H1 l = some L → (lookI g l = none ∧ look g L = none) ∨ ∃ i o, lookI g l = some i ∧ look g L = some o ∧ backO W (H1.get i) = some o
 | [], L, h => by simp only [objsRw, Option.some.injEq] at h; subst h; exact .inl ⟨rfl, rfl⟩
 | (g0, i) :: l, L, h => by
  simp only [objsRw] at h
  split at h
  ·rename_i o os h1 h2
   cases h
   by_cases e : g = g0
   ·exact .inr ⟨i, o, by simp [lookI, e], by simp [look, e], h1⟩
   ·simp only [lookI, look, if_neg e]
    exact look_objs h2
  ·cases h
theorem objsNew_get {W : Way} {H1 : Heap} : ∀ {l : List Nat} {L : List AObj}, objsNew W H1 l = some L → L.length = l.length ∧ ∀ (j i : Nat), l[j]? = some i → ∃ o, L[j]? = some o ∧ (if roNil W i = true then backO W (H1.get i) else backNew W (H1.get i)) = some o
 | [], L, h => by simp only [objsNew, Option.some.injEq] at h; subst h; exact ⟨rfl, fun j i hj => by simp at hj⟩
 | i0 :: l, L, h => by
  simp only [objsNew] at h
  split at h
  ·rename_i o os h1 h2
   cases h
   obtain ⟨q1, q2⟩ := objsNew_get h2
   refine ⟨by simp [q1], fun j i hj => ?_⟩
   cases j with
   | zero =>
    simp at hj
    subst hj
    refine ⟨o, rfl, ?_⟩
    rw [← h1]
    cases roNil W i0 <;> rfl
   | succ j => simpa using q2 j i (by simpa using hj)
  ·cases h
theorem backNew_O {W : Way} {x : Option AObj} {o : AObj} (h : backNew W x = some o) : backO W x = some o ∧ ∀ cs e, o.row ≠ some (cs, e, true) := by
 unfold backNew at h
 split at h
 ·rename_i cs e
  obtain ⟨cs', hc, rfl⟩ := map_some h
  exact ⟨by simp [backO, hc], fun _ _ h => by simp [AObj.row] at h⟩
 ·cases h; exact ⟨rfl, fun _ _ h => by simp [AObj.row] at h⟩
 ·cases h
 ·cases h
 ·cases h
 ·rename_i h1 h2 h3 h4 h5
  cases h
  refine ⟨?_, fun _ _ h => by simp [AObj.row] at h⟩
  cases x with
  | none => rfl
  | some y =>
   cases y with
   | dead => rfl
   | cells cs e ro =>
    cases ro
    ·exact absurd rfl (h1 cs e)
    ·exact absurd rfl (h3 cs e)
   | vec t l e ro =>
    cases ro
    ·exact absurd rfl (h2 t l e)
    ·exact absurd rfl (h4 t l e)
   | fro t l e => exact absurd rfl (h5 t l e)
theorem rwRows_mem {ρ : Rho} {g i : Nat} : ∀ {rs : List RP} {k : Nat}, (g, i) ∈ rwRows ρ rs k ↔ ∃ j r, i = k + j ∧ rs[j]? = some r ∧ r.rw = true ∧ Src.row? (ρ.find i) = some g
 | [], k => by simp [rwRows]
 | r :: rs, k => by
  have ih := rwRows_mem (ρ := ρ) (g := g) (i := i) (rs := rs) (k := k + 1)
  have key : (∃ j r', i = k + j ∧ (r :: rs)[j]? = some r' ∧ r'.rw = true ∧ Src.row? (ρ.find i) = some g) ↔ (i = k ∧ r.rw = true ∧ Src.row? (ρ.find k) = some g) ∨ (g, i) ∈ rwRows ρ rs (k + 1) := by
   rw [ih]
   constructor
   ·rintro ⟨j, r', rfl, hr, h1, h2⟩
    cases j with
    | zero => simp at hr; subst hr; exact .inl ⟨rfl, h1, h2⟩
    | succ j => exact .inr ⟨j, r', by omega, by simpa using hr, h1, h2⟩
   ·rintro (⟨rfl, h1, h2⟩ | ⟨j, r', rfl, hr, h1, h2⟩)
    ·exact ⟨0, r, rfl, rfl, h1, h2⟩
    ·exact ⟨j + 1, r', by omega, by simpa using hr, h1, h2⟩
  rw [key]
  simp only [rwRows]
  split
  ·rename_i g0 h1 h2
   simp only [List.mem_cons, Prod.mk.injEq]
   constructor
   ·rintro (⟨rfl, rfl⟩ | h)
    ·exact .inl ⟨rfl, h1, h2⟩
    ·exact .inr h
   ·rintro (⟨rfl, _, h3⟩ | h)
    ·rw [h2] at h3; cases h3; exact .inl ⟨rfl, rfl⟩
    ·exact .inr h
  ·rename_i hno
   constructor
   ·exact .inr
   ·rintro (⟨rfl, h1, h2⟩ | h)
    ·exact (hno g h1 h2).elim
    ·exact h
theorem lookI_mem {g : Nat} : ∀ {l : List (Nat × Nat)}, (∀ i, lookI g l = some i → (g, i) ∈ l) ∧ (lookI g l = none → ∀ i, (g, i) ∉ l)
 | [] => ⟨fun i h => (by cases h), fun _ i h => List.not_mem_nil h⟩
 | (h, j) :: l => by
  obtain ⟨q1, q2⟩ := lookI_mem (g := g) (l := l)
  constructor
  ·intro i hi
   simp only [lookI] at hi
   split at hi
   ·rename_i e; cases hi; rw [e]; simp
   ·exact List.mem_cons_of_mem _ (q1 i hi)
  ·intro hi i hm
   simp only [lookI] at hi
   split at hi
   ·cases hi
   ·rename_i e
    simp only [List.mem_cons, Prod.mk.injEq] at hm
    rcases hm with ⟨h1, _⟩ | hm
    ·exact e h1
    ·exact q2 hi i hm
section frame
variable {D : Dom} {x : D.den} {H H1 : Heap} {β β1 : At} {w w' : World} {ρ : Rho} {B : Nat → Option Base} {cs : List Value}
def inv (D : Dom) (ρ : Rho) (H H1 : Heap) (g : Nat) : Option Nat := if g < H.n then lookI g (rwRows ρ D.rows 0) else (newRows ρ D.rows.length H1.n)[g - H.n]?
def backAt (D : Dom) (ρ : Rho) (H H1 : Heap) (β β1 : At) : At :=
 {base := fun g => match inv D ρ H H1 g with
   | some i => β1 i
   | none => if g < H.n then β g else none
  imm := β1.imm }
theorem backAt_some {g i : Nat} (h : inv D ρ H H1 g = some i) : (backAt D ρ H H1 β β1) g = β1 i := by
 show (match inv D ρ H H1 g with
   | some i => β1 i
   | none => if g < H.n then β g else none) = _
 rw [h]
theorem backAt_none {g : Nat} (h : inv D ρ H H1 g = none) : (backAt D ρ H H1 β β1) g = if g < H.n then β g else none := by
 show (match inv D ρ H H1 g with
   | some i => β1 i
   | none => if g < H.n then β g else none) = _
 rw [h]
theorem inv_rw {g i : Nat} (hc : Cast D x H β w ρ B cs) (hg : g < H.n) (h : inv D ρ H H1 g = some i) : ∃ r s, D.rows[i]? = some r ∧ r.rw = true ∧ ρ.find i = some s ∧ Src.row? (some s) = some g ∧ i < D.rows.length := by
 unfold inv at h
 rw [if_pos hg] at h
 have hm := lookI_mem.1 i h
 obtain ⟨j, r, e, hr, h1, h2⟩ := rwRows_mem.1 hm
 rw [Nat.zero_add] at e
 subst e
 cases hs : ρ.find i with
 | none => rw [hs] at h2; cases h2
 | some s => exact ⟨r, s, hr, h1, rfl, by rw [hs] at h2; exact h2, (List.getElem?_eq_some_iff.1 hr).1⟩
theorem live_of_rw {r : RP} (h : r.rw = true) : r.dead? = false := by cases r <;> simp [RP.rw, RP.dead?] at h ⊢
theorem rw_inv {i g : Nat} {r : RP} (hc : Cast D x H β w ρ B cs) (hr : D.rows[i]? = some r) (hrw : r.rw = true) (hs : Src.row? (ρ.find i) = some g) (hg : g < H.n) : inv D ρ H H1 g = some i := by
 unfold inv
 rw [if_pos hg]
 cases hl : lookI g (rwRows ρ D.rows 0) with
 | none => exact absurd (rwRows_mem.2 ⟨i, r, by omega, hr, hrw, hs⟩) (lookI_mem.2 hl i)
 | some j =>
  by_cases e : j = i
  ·rw [e]
  ·exfalso
   obtain ⟨k, r', hk, hr', h1, h2⟩ := rwRows_mem.1 (lookI_mem.1 j hl)
   rw [Nat.zero_add] at hk
   subst hk
   have a1 : (froms ρ D.rows 0)[i]? = some (some g, true) := by rw [froms_get, hr]; simp [live_of_rw hrw, hs, hrw]
   have a2 : (froms ρ D.rows 0)[j]? = some (some g, true) := by rw [froms_get, hr']; simp [live_of_rw h1, h2, h1]
   exact injOk_spec hc.inj a1 a2 (fun e' => e e'.symm) rfl
theorem ro_inv {i g : Nat} {r : RP} (hc : Cast D x H β w ρ B cs) (hr : D.rows[i]? = some r) (hd : r.dead? = false) (hrw : r.rw = false) (hs : Src.row? (ρ.find i) = some g) (hg : g < H.n) : inv D ρ H H1 g = none := by
 unfold inv
 rw [if_pos hg]
 cases hl : lookI g (rwRows ρ D.rows 0) with
 | none => rfl
 | some j =>
  exfalso
  obtain ⟨k, r', hk, hr', h1, h2⟩ := rwRows_mem.1 (lookI_mem.1 j hl)
  rw [Nat.zero_add] at hk
  subst hk
  have a1 : (froms ρ D.rows 0)[i]? = some (some g, false) := by rw [froms_get, hr]; simp [hd, hs, hrw]
  have a2 : (froms ρ D.rows 0)[j]? = some (some g, true) := by rw [froms_get, hr']; simp [live_of_rw h1, h2, h1]
  have hne : j ≠ i := by
   intro e
   subst e
   rw [hr] at hr'
   cases hr'
   rw [hrw] at h1
   cases h1
  exact injOk_spec hc.inj a2 a1 hne rfl
theorem new_inv {i : Nat} (hi : i ∈ newRows ρ D.rows.length H1.n) : inv D ρ H H1 (H.n + idx i (newRows ρ D.rows.length H1.n)) = some i := by
 unfold inv
 rw [if_neg (by omega), Nat.add_sub_cancel_left]
 exact idx_spec hi
theorem inv_inj (hc : Cast D x H β w ρ B cs) {g g' i : Nat} (h : inv D ρ H H1 g = some i) (h' : inv D ρ H H1 g' = some i) : g = g' := by
 have hnew : ∀ {g i}, ¬ g < H.n → inv D ρ H H1 g = some i → (newRows ρ D.rows.length H1.n)[g - H.n]? = some i := by
  intro g i hg h
  unfold inv at h
  rwa [if_neg hg] at h
 by_cases hg : g < H.n
 ·obtain ⟨r, s, hr, h1, h2, h3, h4⟩ := inv_rw hc hg h
  by_cases hg' : g' < H.n
  ·obtain ⟨r', s', hr', _, h2', h3', _⟩ := inv_rw hc hg' h'
   rw [h2] at h2'
   cases h2'
   rw [h3] at h3'
   cases h3'
   rfl
  ·exfalso
   have hm := newRows_mem.1 (List.mem_of_getElem? (hnew hg' h'))
   rcases hm.2 with h5 | h5
   ·omega
   ·rw [h2] at h5; cases h5; cases h3
 ·by_cases hg' : g' < H.n
  ·exfalso
   obtain ⟨r, s, hr, h1, h2, h3, h4⟩ := inv_rw hc hg' h'
   have hm := newRows_mem.1 (List.mem_of_getElem? (hnew hg h))
   rcases hm.2 with h5 | h5
   ·omega
   ·rw [h2] at h5; cases h5; cases h3
  ·have e := (newRows_nodup ρ D.rows.length H1.n)
   have a := hnew hg h
   have b := hnew hg' h'
   have hlt := (List.getElem?_eq_some_iff.1 a).1
   have hlt' := (List.getElem?_eq_some_iff.1 b).1
   have ea := (List.getElem?_eq_some_iff.1 a).2
   have eb := (List.getElem?_eq_some_iff.1 b).2
   have hp := List.pairwise_iff_getElem.1 e
   rcases Nat.lt_trichotomy (g - H.n) (g' - H.n) with h1 | h1 | h1
   ·exact absurd (ea.trans eb.symm) (hp _ _ hlt hlt' h1)
   ·omega
   ·exact absurd (eb.trans ea.symm) (hp _ _ hlt' hlt h1)
def Known (β1 β' : At) (i : Nat) (H' : Heap) : Dest → Prop
 | .row g => g < H'.n ∧ ∀ b, β' g = some b → β1 i = some b
 | .win g e z => g < H'.n ∧ ∀ b, β' g = some b → (β1 i = some (b.shift (e * z)) ∧ (b.nil = true ∨ e * z ≤ b.room)) ∨ (β1 i = some b ∧ (b.nil = true ∨ e * z = 0))
 | .inl t l => (l = [] ∧ β1 i = some (nilBase 1)) ∨ (∃ (blk off room : Nat) (ds : Nat → Value), β1 i = some ⟨blk, off, room, false⟩ ∧ l.length * t.z ≤ room ∧ ∀ k v, (encL t l)[k]? = some v → β1.imm blk (off + k) = some (ds k) ∧ VRel H'.n β' v (ds k))
theorem known (hR : Rel β H w) (hc : Cast D x H β w ρ B cs) (hR1 : Rel β1 H1 w') (hLe : Le (D.at_ β B) (D.heap x) w β1 H1 w') {H' : Heap} (hn : H'.n = H.n + (newRows ρ D.rows.length H1.n).length) {i : Nat} (hi : i < H1.n) {d : Dest}
  (hnd : ∀ r, r ∈ D.rows → r.dead? = false) (hd : (wayOf D ρ H H1).to i = some d) : Known β1 (backAt D ρ H H1 β β1) i H' d := by
 have hlt : ∀ g, (∃ b, β g = some b) → g < H.n := fun g ⟨b, hb⟩ => by
  obtain ⟨c, e, ro, h, _⟩ := hR.lies g b hb
  exact hR.row_lt h
 have hnewrow : i ∈ newRows ρ D.rows.length H1.n → Known β1 (backAt D ρ H H1 β β1) i H' (.row (H.n + idx i (newRows ρ D.rows.length H1.n))) := by
  intro hm
  have h1 := (List.getElem?_eq_some_iff.1 (idx_spec hm)).1
  refine ⟨by omega, fun b hb => ?_⟩
  rw [backAt_some (new_inv hm)] at hb
  exact hb
 unfold Way.to wayOf at hd
 by_cases hi1 : i < D.rows.length
 ·have e1 : Nat.blt i D.rows.length = true := Nat.blt_eq.mpr hi1
  simp only [e1, cond_true] at hd
  have hr : D.rows[i]? = some D.rows[i] := List.getElem?_eq_getElem hi1
  cases hlv : H1.isLive i with
  | false => rw [hlv] at hd; cases hd
  | true => ?_
  rw [hlv, cond_true] at hd
  obtain ⟨csl, el, rol, hrl⟩ := Heap.isLive_row hlv
  obtain ⟨bl, hbl⟩ := hR1.tot i csl el rol hrl
  cases hdead : D.rows[i].dead? with
  | true => rw [hnd _ (List.mem_of_getElem? hr)] at hdead; cases hdead
  | false =>
   obtain ⟨s, bs, hs, hbs, ⟨cs', e', hrow⟩, hwhose, hmine⟩ := hc.row i _ hr hdead
   have hsrc := hc.okB i s hs
   have hat : (D.at_ β B) i = some bs := by
    show (if D.live i = true then B i else none) = _
    rw [if_pos (by unfold Dom.live; rw [hr]; simp [hdead]), hbs]
   rw [hs] at hd
   have hkeep : D.rows[i].rw = false → β1 i = some bs := by
    intro hrw
    rw [hrw] at hrow
    rcases hLe.ro i cs' e' hrow with h | ⟨_, h⟩
    ·rw [h.1]; exact hat
    ·rw [hbl] at h; cases h
   cases s with
   | whole g =>
    simp only [Option.some.injEq] at hd
    subst hd
    have hβ : β g = some bs := by rw [← hbs]; exact hsrc.symm
    have hg := hlt g ⟨bs, hβ⟩
    refine ⟨by omega, fun b hb => ?_⟩
    cases hrw : D.rows[i].rw with
    | true =>
     rw [backAt_some (rw_inv hc hr hrw (by rw [hs]; rfl) hg)] at hb
     exact hb
    | false =>
     rw [backAt_none (ro_inv hc hr hdead hrw (by rw [hs]; rfl) hg), if_pos hg, hβ] at hb
     rw [hkeep hrw]
     exact hb
   | win g e n z =>
    simp only [Option.some.injEq] at hd
    subst hd
    have hroom := hsrc.2
    have hsrc : B i = (β g).map fun b => b.shift (e * z) := hsrc.1
    rw [hbs] at hsrc
    cases hβ : β g with
    | none => rw [hβ] at hsrc; cases hsrc
    | some b0 =>
     rw [hβ] at hsrc
     simp only [Option.map_some, Option.some.injEq] at hsrc
     have hg := hlt g ⟨b0, hβ⟩
     refine ⟨by omega, fun b hb => ?_⟩
     cases hrw : D.rows[i].rw with
     | true =>
      rw [backAt_some (rw_inv hc hr hrw (by rw [hs]; rfl) hg)] at hb
      refine .inr ⟨hb, ?_⟩
      -- the window is the whole row
      have hbe : b = bs := by
       rcases hLe.keeps.1 i (by rw [D.heap_n]; exact hi1) with h | h
       ·rw [h, hat] at hb; cases hb; rfl
       ·rw [h] at hb; cases hb
      rcases hmine hrw with ⟨h, _⟩ | ⟨g', c1, e1, hg', hβ', _⟩
      ·cases h
      ·simp only [Src.row?, Option.some.injEq] at hg'
       subst hg'
       rw [hβ] at hβ'
       cases hβ'
       rw [hbe]
       by_cases hnil : bs.nil = true
       ·exact .inl hnil
       ·right
        unfold Base.shift at hsrc
        rw [if_neg hnil] at hsrc
        have := congrArg Base.off hsrc
        simp only at this
        omega
     | false =>
      rw [backAt_none (ro_inv hc hr hdead hrw (by rw [hs]; rfl) hg), if_pos hg, hβ] at hb
      cases hb
      exact .inl ⟨by rw [hkeep hrw, hsrc], hroom _ hβ⟩
   | nil =>
    simp only [Option.some.injEq] at hd
    subst hd
    exact hnewrow (newRows_mem.2 ⟨hi, .inr hs⟩)
   | inl t l =>
    simp only [Option.some.injEq] at hd
    subst hd
    have hrw : D.rows[i].rw = false := by
     cases hrw : D.rows[i].rw with
     | false => rfl
     | true =>
      rcases hmine hrw with ⟨h, _⟩ | ⟨g', c1, e1, hg', _⟩
      ·cases h
      ·cases hg'
    have hb1 := hkeep hrw
    rcases hsrc with ⟨h1, h2⟩ | ⟨h1, blk, off, room, ds, h2, h3, h4⟩
    ·rw [hbs] at h2; cases h2; exact .inl ⟨h1, hb1⟩
    ·rw [hbs] at h2
     cases h2
     refine .inr ⟨blk, off, room, ds, hb1, h3, fun k v hv => ⟨hLe.keeps.2 _ _ _ (h4 k v hv).1, ?_⟩⟩
     exact VRel.data (β := β) (β' := backAt D ρ H H1 β β1) (fun b o c hbc => hLe.keeps.2 b o c hbc) (h4 k v hv).2 (encL_data_at hv)
 ·have e1 : Nat.blt i D.rows.length = false := by
   cases e : Nat.blt i D.rows.length with
   | false => rfl
   | true => exact absurd (Nat.blt_eq.mp e) hi1
  simp only [e1, cond_false, Option.some.injEq] at hd
  subst hd
  exact hnewrow (newRows_mem.2 ⟨hi, .inl (by omega)⟩)
mutual
theorem back_sound {N1 : Nat} {β' : At} {W : Way} {H' : Heap} (himm : ∀ b o c, β1.imm b o = some c → β'.imm b o = some c) (hk : ∀ i d, i < N1 → W.to i = some d → Known β1 β' i H' d) : ∀ {v v' : AV} {c : Value}, back W v = some v' → VRel N1 β1 v c → VRel H'.n β' v' c
 | .bool t b, v', c, h, hv => by simp only [back, Option.some.injEq] at h; subst h; exact hv.data himm rfl
 | .int t k n, v', c, h, hv => by simp only [back, Option.some.injEq] at h; subst h; exact hv.data himm rfl
 | .str t s, v', c, h, hv => by simp only [back, Option.some.injEq] at h; subst h; exact hv.data himm rfl
 | .vec t l, v', c, h, hv => by simp only [back, Option.some.injEq] at h; subst h; exact hv.data himm rfl
 | .eptr t l e p, v', c, h, hv => by simp only [back, Option.some.injEq] at h; subst h; exact hv.data himm rfl
 | .map r, v', c, h, hv => by
  simp only [back, Option.some.injEq] at h
  subst h
  cases hv
  exact .mnil
 | .nilFunc, v', c, h, hv => by simp only [back, Option.some.injEq] at h; subst h; cases hv; exact .nilFunc
 | .nilIface, v', c, h, hv => by simp only [back, Option.some.injEq] at h; subst h; cases hv; exact .nilIface
 | .ptr t none, v', c, h, hv => by simp only [back, Option.some.injEq] at h; subst h; cases hv; exact .pnil _
 | .ptr t (some r), v', c, h, hv => by
  cases hv with
  | ptr _ _ a hg hb =>
   simp only [back] at h
   split at h
   ·rename_i g hd
    cases h
    obtain ⟨h1, h2⟩ := hk _ _ hg hd
    exact .ptr _ _ _ h1 fun b hb' => hb b (h2 b hb')
   ·rename_i g e z hd
    split at h
    ·rename_i hz
     cases h
     obtain ⟨h1, h2⟩ := hk _ _ hg hd
     refine .ptr _ _ _ h1 fun b hb' => ?_
     rcases h2 b hb' with ⟨h3, hrm⟩ | ⟨h3, h4⟩
     ·obtain ⟨h5, h6⟩ := hb _ h3
      rw [Base.shift_nil] at h5
      refine ⟨h5, ?_⟩
      rw [h6]
      unfold Base.shift
      rw [if_neg (by rw [h5]; simp)]
      simp only [Ref.i, hz, Nat.add_mul, Addr.mk.injEq, true_and, and_true]
      omega
     ·obtain ⟨h5, h6⟩ := hb _ h3
      refine ⟨h5, ?_⟩
      rcases h4 with h4 | h4
      ·rw [h5] at h4; cases h4
      ·rw [h6]
       simp only [Ref.i, hz, Nat.add_mul, h4, Addr.mk.injEq, true_and, and_true]
       omega
    ·cases h
   ·rename_i t' l hd
    split at h
    ·rename_i hz
     cases h
     rcases hk _ _ hg hd with ⟨_, h2⟩ | ⟨blk, off, room, ds, h2, _, h4⟩
     ·have := (hb _ h2).1; cases this
     ·have := (hb _ h2).2
      rw [this]
      have e : off + r.i = off + (r.e * t'.z + r.o) := by unfold Ref.i; rw [hz]
      simp only [e]
      exact .eptr t' l r.e r.o blk off ds (fun k v hv => himm _ _ _ (h4 k v hv).1) (fun k v hv => (h4 k v hv).2)
    ·cases h
   ·cases h
 | .slice t none n z, v', c, h, hv => by simp only [back, Option.some.injEq] at h; subst h; cases hv with
  | snil _ _ _ h0 => exact .snil _ _ _ h0
 | .slice t (some r) n z, v', c, h, hv => by
  cases hv with
  | slice _ _ _ _ cap a hg hn hs hb =>
   simp only [back] at h
   split at h
   ·rename_i g hd
    cases h
    obtain ⟨h1, h2⟩ := hk _ _ hg hd
    exact .slice _ _ _ _ _ _ h1 hn hs fun b hb' => hb b (h2 b hb')
   ·rename_i g e z' hd
    split at h
    ·rename_i hz
     cases h
     obtain ⟨h1, h2⟩ := hk _ _ hg hd
     refine .slice _ _ _ _ _ _ h1 hn hs fun b hb' => ?_
     rcases h2 b hb' with ⟨h3, hrm⟩ | ⟨h3, h4⟩
     ·obtain ⟨h5, h6⟩ := hb _ h3
      rw [Base.shift_nil] at h5 h6
      refine ⟨fun hnil => ⟨(h5 hnil).1, fun hr => (h5 hnil).2 ?_⟩, fun hnil => ?_⟩
      ·unfold Base.shift; rw [if_pos hnil]; exact hr
      ·obtain ⟨h7, h8⟩ := h6 hnil
       unfold Base.shift at h7 h8
       rw [if_neg (by rw [hnil]; simp)] at h7 h8
       refine ⟨fun hc => ?_, ?_⟩
       ·rw [h7 hc]
        simp only [Ref.i, hz, Nat.add_mul, Option.some.injEq, Addr.mk.injEq, true_and, and_true]
        omega
       ·rcases hrm with hrm | hrm
        ·rw [hnil] at hrm; cases hrm
        ·simp only [Ref.i, hz, Nat.add_mul] at h8 ⊢
         omega
     ·obtain ⟨h5, h6⟩ := hb _ h3
      refine ⟨h5, fun hnil => ?_⟩
      obtain ⟨h7, h8⟩ := h6 hnil
      rcases h4 with h4 | h4
      ·rw [hnil] at h4; cases h4
      ·have ei : (Ref.mk g (e + r.e) r.z r.o).i = r.i := by simp only [Ref.i, hz, Nat.add_mul, h4]; omega
       rw [ei]
       exact ⟨h7, h8⟩
    ·cases h
   ·rename_i t' l hd
    split at h
    ·rename_i hc
     obtain ⟨hz, ho, hz', hle⟩ := hc
     cases h
     have hlen : ((l.drop r.e).take n).length = n := by simp; omega
     rcases hk _ _ hg hd with ⟨h1, h2⟩ | ⟨blk, off, room, ds, h2, hroom, h4⟩
     ·subst h1
      obtain ⟨h5, _⟩ := hb _ h2
      have hn0 := (h5 rfl).1
      subst hn0
      have e0 : (([] : List t'.den).drop r.e).take 0 = [] := by simp
      rw [e0]
      exact .vec t' [] cap a 0 0 (fun _ => undef) (by simp) ⟨fun hc => by simp at hc, hs⟩ (fun k v hv => by simp [encL] at hv) (fun k v hv => by simp [encL] at hv)
     ·obtain ⟨_, h6⟩ := hb _ h2
      obtain ⟨h7, h8⟩ := h6 rfl
      have hi : r.i = r.e * t'.z := by unfold Ref.i; rw [hz, ho, Nat.add_zero]
      have hk' : ∀ k v, (encL t' ((l.drop r.e).take n))[k]? = some v → (encL t' l)[r.e * t'.z + k]? = some v := by
       intro k v hv
       rw [encL_take, encL_drop] at hv
       have hlt : k < n * t'.z := by
        have := (List.getElem?_eq_some_iff.1 hv).1
        simp only [List.length_take] at this
        omega
       rwa [List.getElem?_take_of_lt hlt, List.getElem?_drop] at hv
      have key := VRel.vec (N := H'.n) (β := β') t' ((l.drop r.e).take n) cap a blk (off + r.e * t'.z) (fun k => ds (r.e * t'.z + k)) (by rw [hlen]; exact hn) ⟨fun hc => by rw [h7 (by rw [hlen] at hc; omega), hi], hs⟩
       (fun k v hv => by rw [Nat.add_assoc]; exact himm _ _ _ (h4 _ _ (hk' k v hv)).1) (fun k v hv => (h4 _ _ (hk' k v hv)).2)
      rw [hlen] at key
      exact key
    ·cases h
   ·cases h
 | .agg l, v', c, h, hv => by
  simp only [back] at h
  obtain ⟨l', hl, rfl⟩ := map_some h
  cases hv with
  | agg _ cs hv => exact .agg _ _ (backL_sound himm hk hl hv)
 | .tup l, v', c, h, hv => by
  simp only [back] at h
  obtain ⟨l', hl, rfl⟩ := map_some h
  cases hv with
  | tup _ cs hv => exact .tup _ _ (backL_sound himm hk hl hv)
 | .func f a b, v', c, h, hv => by
  simp only [back] at h
  split at h
  ·rename_i a' b' ha hb
   cases h
   cases hv with
   | func _ _ _ cs ds h1 h2 => exact .func _ _ _ _ _ (backL_sound himm hk ha h1) (backL_sound himm hk hb h2)
  ·cases h
theorem backL_sound {N1 : Nat} {β' : At} {W : Way} {H' : Heap} (himm : ∀ b o c, β1.imm b o = some c → β'.imm b o = some c) (hk : ∀ i d, i < N1 → W.to i = some d → Known β1 β' i H' d) : ∀ {v v' : List AV} {c : List Value}, backL W v = some v' → VsRel N1 β1 v c → VsRel H'.n β' v' c
 | [], v', c, h, hv => by
  simp only [backL, Option.some.injEq] at h
  subst h
  cases hv
  exact .nil
 | x :: l, v', c, h, hv => by
  simp only [backL] at h
  split at h
  ·rename_i x' l' hx hl
   cases h
   cases hv with
   | cons _ c _ cs h1 h2 => exact .cons _ _ _ _ (back_sound himm hk hx h1) (backL_sound himm hk hl h2)
  ·cases h
end
end frame
end Go.Vx
end
section
set_option linter.unusedVariables false
set_option linter.unusedSimpArgs false
namespace Go.Vx
section frame
variable {D : Dom} {x : D.den} {H H1 H' : Heap} {β β1 : At} {w w' : World} {ρ : Rho} {B : Nat → Option Base} {cs : List Value}
theorem back_cell {W : Way} {v v' : AV} (h : back W v = some v') (hv : v.cell = true) : v'.cell = true := by
 cases v with
 | ptr t r =>
  cases r with
  | none => simp only [back, Option.some.injEq] at h; subst h; rfl
  | some r =>
   simp only [back] at h
   split at h
   ·cases h; rfl
   ·split at h
    ·cases h; rfl
    ·cases h
   ·split at h
    ·cases h; rfl
    ·cases h
   ·cases h
 | slice t r n z =>
  cases r with
  | none => simp only [back, Option.some.injEq] at h; subst h; rfl
  | some r =>
   simp only [back] at h
   split at h
   ·cases h; rfl
   ·split at h
    ·cases h; rfl
    ·cases h
   ·split at h
    ·cases h; rfl
    ·cases h
   ·cases h
 | func f a b =>
  simp only [back] at h
  split at h
  ·cases h; rfl
  ·cases h
 | agg l => cases hv
 | tup l => cases hv
 | _ => simp only [back, Option.some.injEq] at h; subst h; exact hv
theorem backL_get {W : Way} : ∀ {l l' : List AV}, backL W l = some l' → l'.length = l.length ∧ ∀ (j : Nat) (v' : AV), l'[j]? = some v' → ∃ v, l[j]? = some v ∧ back W v = some v'
 | [], l', h => by simp only [backL, Option.some.injEq] at h; subst h; exact ⟨rfl, fun j v' hj => by simp at hj⟩
 | x :: l, l', h => by
  simp only [backL] at h
  split at h
  ·rename_i x' l1 hx hl
   cases h
   obtain ⟨q1, q2⟩ := backL_get hl
   refine ⟨by simp [q1], fun j v' hj => ?_⟩
   cases j with
   | zero => simp at hj; subst hj; exact ⟨x, rfl, hx⟩
   | succ j => simpa using q2 j v' (by simpa using hj)
  ·cases h
theorem backO_lies {N1 : Nat} {β' : At} {W : Way} (himm : ∀ b o c, β1.imm b o = some c → β'.imm b o = some c) (hk : ∀ i d, i < N1 → W.to i = some d → Known β1 β' i H' d) {o o' : AObj} (h : backO W (some o) = some o') {cs : List AV} {e : TypeId} {ro : Bool} {b : Base} (hrow : o.row = some (cs, e, ro))
  (hl : Lies N1 β1 w' cs ro b) : ∃ cs', o'.row = some (cs', e, ro) ∧ Lies H'.n β' w' cs' ro b := by
 cases o with
 | dead => cases hrow
 | cells c e' ro' =>
  simp only [AObj.row, Option.some.injEq, Prod.mk.injEq] at hrow
  obtain ⟨rfl, rfl, rfl⟩ := hrow
  simp only [backO] at h
  obtain ⟨c', hc, rfl⟩ := map_some h
  obtain ⟨q1, q2⟩ := backL_get hc
  refine ⟨c', rfl, ?_⟩
  exact {
   cell := fun j v' hj => by
    obtain ⟨v, hv, hb⟩ := q2 j v' hj
    obtain ⟨d, hd, hr⟩ := hl.cell j v hv
    exact ⟨d, hd, back_sound himm hk hb hr⟩
   plain := fun j v' hj => by
    obtain ⟨v, hv, hb⟩ := q2 j v' hj
    exact back_cell hb (hl.plain j v hv)
   room := by rw [q1]; exact hl.room
   nl := fun hn => by
    have := hl.nl hn
    subst this
    exact List.length_eq_zero_iff.1 q1
   nr := hl.nr
   blk := hl.blk
   free := hl.free }
 | vec t l e' ro' =>
  simp only [AObj.row, Option.some.injEq, Prod.mk.injEq] at hrow
  obtain ⟨rfl, rfl, rfl⟩ := hrow
  simp only [backO, Option.some.injEq] at h
  subst h
  exact ⟨_, rfl, hl.data (encL_data _ _) himm (fun h => h)⟩
 | fro t l e' => simp only [backO] at h; cases h
theorem backO_fro {W : Way} {x : Option AObj} {t : Ty} {l : List t.den} {e : TypeId} : backO W x ≠ some (.fro t l e) := fun h => by
 cases x with
 | none => simp [backO] at h
 | some o =>
  cases o with
  | dead => simp [backO] at h
  | cells c e' ro' => simp only [backO] at h; obtain ⟨_, _, he⟩ := map_some h; cases he
  | vec t l e' ro' => simp [backO] at h
  | fro t l e' => simp [backO] at h
theorem backO_row {W : Way} {x : Option AObj} {o' : AObj} (h : backO W x = some o') {cs' : List AV} {e : TypeId} {ro : Bool} (hrow : o'.row = some (cs', e, ro)) : ∃ o cs, x = some o ∧ o.row = some (cs, e, ro) := by
 cases x with
 | none => simp only [backO, Option.some.injEq] at h; subst h; cases hrow
 | some o =>
  cases o with
  | dead => simp only [backO, Option.some.injEq] at h; subst h; cases hrow
  | cells c e' ro' =>
   simp only [backO] at h
   obtain ⟨c', hc, rfl⟩ := map_some h
   simp only [AObj.row, Option.some.injEq, Prod.mk.injEq] at hrow
   obtain ⟨_, rfl, rfl⟩ := hrow
   exact ⟨_, c, rfl, rfl⟩
  | vec t l e' ro' =>
   simp only [backO, Option.some.injEq] at h
   subst h
   exact ⟨_, cs', rfl, hrow⟩
  | fro t l e' => simp only [backO] at h; cases h
theorem backO_len {W : Way} {x : Option AObj} {o' : AObj} (h : backO W x = some o') {cs' : List AV} {e : TypeId} {ro : Bool} (hrow : o'.row = some (cs', e, ro)) : ∃ o cs, x = some o ∧ o.row = some (cs, e, ro) ∧ cs'.length = cs.length := by
 cases x with
 | none => simp only [backO, Option.some.injEq] at h; subst h; cases hrow
 | some o =>
  cases o with
  | dead => simp only [backO, Option.some.injEq] at h; subst h; cases hrow
  | cells c e' ro' =>
   simp only [backO] at h
   obtain ⟨c', hc, rfl⟩ := map_some h
   simp only [AObj.row, Option.some.injEq, Prod.mk.injEq] at hrow
   obtain ⟨rfl, rfl, rfl⟩ := hrow
   exact ⟨_, c, rfl, rfl, (backL_get hc).1⟩
  | vec t l e' ro' =>
   simp only [backO, Option.some.injEq] at h
   subst h
   exact ⟨_, cs', rfl, hrow, rfl⟩
  | fro t l e' => simp only [backO] at h; cases h
structure Rows (D : Dom) (ρ : Rho) (H H1 H' : Heap) : Prop where
 n : H'.n = H.n + (newRows ρ D.rows.length H1.n).length
 some_ : ∀ g i, inv D ρ H H1 g = some i → ∃ o', H'.get g = some o' ∧ backO (wayOf D ρ H H1) (H1.get i) = some o'
 none_ : ∀ g, inv D ρ H H1 g = none → g < H.n → H'.get g = H.get g
 out : ∀ g, ¬ g < H'.n → H'.get g = none
 new : ∀ g i, inv D ρ H H1 g = some i → D.rows.length ≤ i → ∀ cs e, H'.row g ≠ some (cs, e, true)
 later : Later H H'
theorem backH_rows (hfr : ∀ g o, H.get g = some o → g < H.n) (hc : Cast D x H β w ρ B cs) (hlt : ∀ i r g, D.rows[i]? = some r → r.rw = true → Src.row? (ρ.find i) = some g → g < H.n) (h : backH D ρ H H1 = some H') : Rows D ρ H H1 H' := by
 unfold backH at h
 split at h
 ·rename_i L NL hL hNL
  cases h
  obtain ⟨q1, q2⟩ := objsNew_get hNL
  have hn : (pushes (setsL H L) NL).n = H.n + (newRows ρ D.rows.length H1.n).length := by rw [pushes_n, setsL_n, q1]
  have hget : ∀ g, (pushes (setsL H L) NL).get g = if g < H.n then (setsL H L).get g else if g < H.n + NL.length then NL[g - H.n]? else (setsL H L).get g := by
   intro g
   rw [pushes_get, setsL_n]
  have hkeys : ∀ g o, look g L = some o → g < H.n := by
   intro g o ho
   rcases look_objs (g := g) hL with ⟨_, h2⟩ | ⟨i, o', h1, _, _⟩
   ·rw [h2] at ho; cases ho
   ·obtain ⟨j, r, e1, h2, h4, h3⟩ := rwRows_mem.1 (lookI_mem.1 i h1)
    rw [Nat.zero_add] at e1
    exact hlt i r g (by rw [e1]; exact h2) h4 h3
  refine ⟨hn, fun g i hi => ?_, fun g hi hg => ?_, fun g hg => ?_, fun g i hi hge cs' e => ?_, ?_⟩
  ·unfold inv at hi
   rw [hget]
   split at hi
   ·rename_i hg
    rw [if_pos hg, setsL_get]
    rcases look_objs (g := g) hL with ⟨h1, _⟩ | ⟨i', o', h1, h2, h3⟩
    ·rw [h1] at hi; cases hi
    ·rw [h1] at hi; cases hi
     rw [h2]
     exact ⟨o', rfl, h3⟩
   ·rename_i hg
    obtain ⟨o, ho, hb⟩ := q2 _ i hi
    have hl := (List.getElem?_eq_some_iff.1 ho).1
    rw [if_neg hg, if_pos (by omega)]
    refine ⟨o, ho, ?_⟩
    split at hb
    ·exact hb
    ·exact (backNew_O hb).1
  ·unfold inv at hi
   rw [if_pos hg] at hi
   rw [hget, if_pos hg, setsL_get]
   rcases look_objs (g := g) hL with ⟨_, h2⟩ | ⟨i', o', h1, _, _⟩
   ·rw [h2]
   ·rw [h1] at hi; cases hi
  ·rw [hn, ← q1] at hg
   rw [hget, if_neg (by omega), if_neg hg, setsL_get]
   cases hl : look g L with
   | some o => have := hkeys g o hl; omega
   | none =>
    cases ho : H.get g with
    | none => rfl
    | some o => have := hfr g o ho; omega
  ·unfold inv at hi
   intro hrow
   unfold Heap.row at hrow
   rw [hget] at hrow
   split at hi
   ·rename_i hg
    obtain ⟨j, r, e1, hr, _, _⟩ := rwRows_mem.1 (lookI_mem.1 i hi)
    have := (List.getElem?_eq_some_iff.1 hr).1
    omega
   ·rename_i hg
    obtain ⟨o, ho, hb⟩ := q2 _ i hi
    have hl := (List.getElem?_eq_some_iff.1 ho).1
    rw [if_neg hg, if_pos (by omega), ho] at hrow
    split at hb
    ·rename_i hro
     unfold roNil at hro
     have := Nat.blt_eq.mp hro
     simp only at this
     omega
    ·exact (backNew_O hb).2 cs' e hrow
  ·have h1 : Later H (setsL H L) := by
    clear hget hkeys hn hL
    induction L with
    | nil => exact Later.refl _
    | cons p L ih => exact ih.trans (Later.set _ _ _)
   have h2 : ∀ (NL : List AObj) (H0 : Heap), Later H0 (pushes H0 NL) := by
    intro NL
    induction NL with
    | nil => intro H0; exact Later.refl _
    | cons o NL ih => intro H0; exact (Later.push _ _).trans (ih _)
   exact h1.trans (h2 _ _)
 ·cases h
theorem frame_sound (hR : Rel β H w) (hc : Cast D x H β w ρ B cs) (hnd : ∀ r, r ∈ D.rows → r.dead? = false) (hR1 : Rel β1 H1 w') (hLe : Le (D.at_ β B) (D.heap x) w β1 H1 w') (hrows : Rows D ρ H H1 H') :
  Rel (backAt D ρ H H1 β β1) H' w' ∧ Le β H w (backAt D ρ H H1 β β1) H' w' ∧ ∀ v v' c, back (wayOf D ρ H H1) v = some v' → VRel H1.n β1 v c → VRel H'.n (backAt D ρ H H1 β β1) v' c := by
 have hkn : ∀ i d, i < H1.n → (wayOf D ρ H H1).to i = some d → Known β1 (backAt D ρ H H1 β β1) i H' d := fun i d hi hd => known hR hc hR1 hLe hrows.n hi hnd hd
 have himm : ∀ b o c, β1.imm b o = some c → (backAt D ρ H H1 β β1).imm b o = some c := fun _ _ _ h => h
 have hn : H.n ≤ H'.n := by rw [hrows.n]; omega
 have hβlt : ∀ g b, β g = some b → g < H.n := fun g b h => by
  obtain ⟨c, e, ro, h, _⟩ := hR.lies g b h
  exact hR.row_lt h
 have hat : ∀ i r, D.rows[i]? = some r → (D.at_ β B) i = B i := fun i r hr => by
  show (if D.live i = true then B i else none) = _
  rw [if_pos (by unfold Dom.live; rw [hr]; simp [hnd r (List.mem_of_getElem? hr)])]
 -- a row that may be written: where it lies
 have hmine : ∀ g i, g < H.n → inv D ρ H H1 g = some i → ∃ bs cs e, β g = some bs ∧ B i = some bs ∧ (D.at_ β B) i = some bs ∧ H.row g = some (cs, e, false) ∧ i < D.rows.length := by
  intro g i hg hi
  obtain ⟨r, s, hr, hrw, hs, hsg, hlt⟩ := inv_rw hc hg hi
  obtain ⟨s', bs, hs', hbs, _, _, hm⟩ := hc.row i r hr (live_of_rw hrw)
  rw [hs] at hs'
  cases hs'
  rcases hm hrw with ⟨h, _⟩ | ⟨g', c1, e1, hg', hβ, hrow⟩
  ·subst h; cases hsg
  ·rw [hsg] at hg'
   cases hg'
   exact ⟨bs, c1, e1, hβ, hbs, by rw [hat i r hr]; exact hbs, hrow, hlt⟩
 have hKeep : Keeps H.n β (backAt D ρ H H1 β β1) := by
  refine ⟨fun g hg => ?_, fun b o c h => hLe.keeps.2 b o c h⟩
  cases hi : inv D ρ H H1 g with
  | none => rw [backAt_none hi, if_pos hg]; exact .inl rfl
  | some i =>
   obtain ⟨bs, _, _, hβ, _, hat', _, hlt⟩ := hmine g i hg hi
   rw [backAt_some hi]
   rcases hLe.keeps.1 i (by rw [D.heap_n]; exact hlt) with h | h
   ·rw [h, hat', hβ]; exact .inl rfl
   ·exact .inr h
 -- a block that one of the callee's rows had is no block of another old row
 have hother : ∀ k, Mut (D.at_ β B) (D.heap x) k → ∀ g b, inv D ρ H H1 g = none → β g = some b → b.nil = false → b.blk ≠ k := by
  rintro k ⟨i, bi, c1, e1, hbi, hri, hni, rfl⟩ g b hg hβ hnb hblk
  have hli : ∃ r, D.rows[i]? = some r := by
   have hb : (if D.live i = true then B i else none) = some bi := hbi
   split at hb
   ·rename_i hl
    unfold Dom.live at hl
    split at hl
    ·rename_i r hr; exact ⟨r, hr⟩
    ·cases hl
   ·cases hb
  obtain ⟨r, hr⟩ := hli
  obtain ⟨s, bs, hs, hbs, ⟨c2, e2, hrow2⟩, _, hm⟩ := hc.row i r hr (hnd r (List.mem_of_getElem? hr))
  rw [hri] at hrow2
  simp only [Option.some.injEq, Prod.mk.injEq] at hrow2
  rw [hat i r hr, hbs] at hbi
  cases hbi
  have hrw : r.rw = true := by simpa using hrow2.2.2.symm
  rcases hm hrw with ⟨_, h⟩ | ⟨g', c3, e3, hg', hβ', hrow'⟩
  ·rw [hni] at h; cases h
  ·have hinv := rw_inv (H1 := H1) hc hr hrw (by rw [hs]; exact hg') (hβlt _ _ hβ')
   have hne : g' ≠ g := fun e => by rw [e, hg] at hinv; cases hinv
   exact hR.apart g' g bi b c3 e3 hne hβ' hβ hrow' hni hnb hblk.symm
 have hsame : ∀ g b, inv D ρ H H1 g = none → β g = some b → b.nil = false → w'.heap[b.blk]? = w.heap[b.blk]? := fun g b hg hβ hnb =>
  hLe.blocks _ (hR.blk_lt hβ hnb) fun hm => hother _ hm g b hg hβ hnb rfl
 have hRel : Rel (backAt D ρ H H1 β β1) H' w' := {
  lies := fun g b hb => by
   cases hi : inv D ρ H H1 g with
   | some i =>
    rw [backAt_some hi] at hb
    obtain ⟨c1, e1, ro1, hrow, hl⟩ := hR1.lies i b hb
    obtain ⟨o', ho', hbo⟩ := hrows.some_ g i hi
    unfold Heap.row at hrow
    cases ho : H1.get i with
    | none => rw [ho] at hrow; cases hrow
    | some o =>
     rw [ho] at hrow hbo
     obtain ⟨c2, h1, h2⟩ := backO_lies himm hkn hbo (by simpa using hrow) hl
     exact ⟨c2, e1, ro1, by unfold Heap.row; rw [ho']; exact h1, h2⟩
   | none =>
    rw [backAt_none hi] at hb
    split at hb
    ·rename_i hg
     obtain ⟨c1, e1, ro1, hrow, hl⟩ := hR.lies g b hb
     exact ⟨c1, e1, ro1, by unfold Heap.row at hrow ⊢; rw [hrows.none_ g hi hg]; exact hrow, hl.later hn hKeep fun hnb => hsame g b hi hb hnb⟩
    ·cases hb
  tot := fun g c1 e1 ro1 hrow => by
   cases hi : inv D ρ H H1 g with
   | some i =>
    obtain ⟨o', ho', hbo⟩ := hrows.some_ g i hi
    unfold Heap.row at hrow
    rw [ho'] at hrow
    obtain ⟨o, c2, ho, hro⟩ := backO_row hbo (show o'.row = _ from hrow)
    obtain ⟨b, hb⟩ := hR1.tot i c2 e1 ro1 (by unfold Heap.row; rw [ho]; exact hro)
    exact ⟨b, by rw [backAt_some hi]; exact hb⟩
   | none =>
    by_cases hg : g < H.n
    ·unfold Heap.row at hrow
     rw [hrows.none_ g hi hg] at hrow
     obtain ⟨b, hb⟩ := hR.tot g c1 e1 ro1 hrow
     exact ⟨b, by rw [backAt_none hi, if_pos hg]; exact hb⟩
    ·exfalso
     have hout : ¬ g < H'.n := by
      intro hlt
      rw [hrows.n] at hlt
      unfold inv at hi
      rw [if_neg hg, List.getElem?_eq_none_iff] at hi
      omega
     unfold Heap.row at hrow
     rw [hrows.out g hout] at hrow
     cases hrow
  fresh := fun g o ho => by
   apply Classical.byContradiction
   intro hg
   rw [hrows.out g hg] at ho
   cases ho
  apart := fun g g' b b' c1 e1 hne hb hb' hrow hnb hnb' hblk => by
   cases hi : inv D ρ H H1 g with
   | some i =>
    rw [backAt_some hi] at hb
    obtain ⟨o', ho', hbo⟩ := hrows.some_ g i hi
    unfold Heap.row at hrow
    rw [ho'] at hrow
    obtain ⟨o, c2, ho, hro⟩ := backO_row hbo (show o'.row = _ from hrow)
    have hrow1 : H1.row i = some (c2, e1, false) := by unfold Heap.row; rw [ho]; exact hro
    cases hi' : inv D ρ H H1 g' with
    | some i' =>
     rw [backAt_some hi'] at hb'
     exact hR1.apart i i' b b' c2 e1 (fun e => hne (inv_inj hc hi (e ▸ hi'))) hb hb' hrow1 hnb hnb' hblk
    | none =>
     rw [backAt_none hi'] at hb'
     split at hb'
     ·rcases hLe.turn b.blk ⟨i, b, c2, e1, hb, hrow1, hnb, rfl⟩ with h | h
      ·exact hother _ h g' b' hi' hb' hnb' hblk.symm
      ·have := hR.blk_lt hb' hnb'; omega
     ·cases hb'
   | none =>
    rw [backAt_none hi] at hb
    split at hb
    ·rename_i hg
     unfold Heap.row at hrow
     rw [hrows.none_ g hi hg] at hrow
     cases hi' : inv D ρ H H1 g' with
     | none =>
      rw [backAt_none hi'] at hb'
      split at hb'
      ·exact hR.apart g g' b b' c1 e1 hne hb hb' hrow hnb hnb' hblk
      ·cases hb'
     | some i' =>
      rw [backAt_some hi'] at hb'
      by_cases hg' : g' < H.n
      ·obtain ⟨bs, c3, e3, hβ', _, hat', _, hlt⟩ := hmine g' i' hg' hi'
       rcases hLe.keeps.1 i' (by rw [D.heap_n]; exact hlt) with h | h
       ·rw [h, hat'] at hb'
        cases hb'
        exact hR.apart g g' b b' c1 e1 hne hb hβ' hrow hnb hnb' hblk
       ·rw [h] at hb'; cases hb'
      ·-- a new row
       have hm := newRows_mem.1 (List.mem_of_getElem? (show (newRows ρ D.rows.length H1.n)[g' - H.n]? = some i' by unfold inv at hi'; rwa [if_neg hg'] at hi'))
       by_cases hge : D.rows.length ≤ i'
       ·obtain ⟨c2, e2, ro2, hrow2, _⟩ := hR1.lies i' b' hb'
        cases ro2 with
        | false =>
         rcases hLe.turn b'.blk ⟨i', b', c2, e2, hb', hrow2, hnb', rfl⟩ with h | h
         ·exact hother _ h g b hi hb hnb hblk
         ·have := hR.blk_lt hb hnb; omega
        | true =>
         exfalso
         obtain ⟨o', ho', hbo⟩ := hrows.some_ g' i' hi'
         unfold Heap.row at hrow2
         cases ho : H1.get i' with
         | none => rw [ho] at hrow2; cases hrow2
         | some o =>
          rw [ho] at hrow2 hbo
          obtain ⟨_, _, _, _, hl2⟩ := hR1.lies i' b' hb'
          rename_i hr3
          unfold Heap.row at hr3
          rw [ho] at hr3
          obtain ⟨c4, h4, _⟩ := backO_lies himm hkn hbo (show o.row = _ from hr3) hl2
          have hr2 : o.row = some (c2, e2, true) := hrow2
          have hr3' : o.row = some _ := hr3
          rw [hr2] at hr3'
          cases hr3'
          exact hrows.new g' i' hi' hge c4 e2 (by unfold Heap.row; rw [ho']; exact h4)
       ·-- a row that was nothing
        have hlt : i' < D.rows.length := by omega
        rcases hm.2 with h | h
        ·omega
        ·have hr : D.rows[i']? = some D.rows[i'] := List.getElem?_eq_getElem hlt
         obtain ⟨s, bs, hs, hbs, _⟩ := hc.row i' _ hr (hnd _ (List.mem_of_getElem? hr))
         rw [h] at hs
         cases hs
         have h5 : B i' = some (nilBase 0) := hc.okB i' _ h
         rcases hLe.keeps.1 i' (by rw [D.heap_n]; exact hlt) with h6 | h6
         ·rw [h6, hat i' _ hr, h5] at hb'
          cases hb'
          cases hnb'
         ·rw [h6] at hb'; cases hb'
    ·cases hb
  immw := hR1.immw
  immm := fun b o c hbc hm => by
   obtain ⟨g, b1, c1, e1, hb1, hrow, hnb, rfl⟩ := hm
   cases hi : inv D ρ H H1 g with
   | some i =>
    rw [backAt_some hi] at hb1
    obtain ⟨o', ho', hbo⟩ := hrows.some_ g i hi
    unfold Heap.row at hrow
    rw [ho'] at hrow
    obtain ⟨ob, c2, ho, hro⟩ := backO_row hbo (show o'.row = _ from hrow)
    exact hR1.immm _ _ _ hbc ⟨i, b1, c2, e1, hb1, by unfold Heap.row; rw [ho]; exact hro, hnb, rfl⟩
   | none =>
    rw [backAt_none hi] at hb1
    split at hb1
    ·rename_i hg
     unfold Heap.row at hrow
     rw [hrows.none_ g hi hg] at hrow
     rcases hLe.imm _ _ _ hbc with h | h | h
     ·exact hR.immm _ _ _ h ⟨g, b1, c1, e1, hb1, hrow, hnb, rfl⟩
     ·exact hother _ h g b1 hi hb1 hnb rfl
     ·have := hR.blk_lt hb1 hnb; omega
    ·cases hb1
  glob := hR1.glob
  tab := hR1.tab
  typ := fun g b c1 e1 hb hrow => by
   cases hi : inv D ρ H H1 g with
   | some i =>
    rw [backAt_some hi] at hb
    obtain ⟨o', ho', hbo⟩ := hrows.some_ g i hi
    unfold Heap.row at hrow
    rw [ho'] at hrow
    obtain ⟨o, c2, ho, hro, hlen⟩ := backO_len hbo (show o'.row = _ from hrow)
    exact (hR1.typ i b c2 e1 hb (by unfold Heap.row; rw [ho]; exact hro)).len hlen
   | none =>
    rw [backAt_none hi] at hb
    split at hb
    ·rename_i hg
     unfold Heap.row at hrow
     rw [hrows.none_ g hi hg] at hrow
     exact (hR.typ g b c1 e1 hb hrow).same fun hnb => hsame g b hi hb hnb
    ·cases hb
  fro := fun g t l e b hg hb hnb k v hv => by
   cases hi : inv D ρ H H1 g with
   | some i =>
    obtain ⟨o', ho', hbo⟩ := hrows.some_ g i hi
    rw [ho'] at hg
    cases hg
    exact absurd hbo backO_fro
   | none =>
    have hb0 := hb
    rw [backAt_none hi] at hb
    split at hb
    ·rename_i hlt
     rw [hrows.none_ g hi hlt] at hg
     obtain ⟨c, hc, hr⟩ := hR.fro g t l e b hg hb hnb k v hv
     exact ⟨c, hKeep.2 _ _ _ hc, hr.mono hn hKeep⟩
    ·cases hb }
 refine ⟨hRel, ?_, fun v v' c hb hv => back_sound himm hkn hb hv⟩
 exact {
  os := hLe.os
  tape := hLe.tape
  output := hLe.output
  size := hLe.size
  n := hn
  keeps := hKeep
  ro := fun g c1 e1 hrow => by
   have hg := hR.row_lt hrow
   cases hi : inv D ρ H H1 g with
   | some i =>
    obtain ⟨bs, c2, e2, _, _, _, hrow2, _⟩ := hmine g i hg hi
    rw [hrow] at hrow2
    cases hrow2
   | none =>
    refine .inl ⟨by rw [backAt_none hi, if_pos hg], c1, e1, ?_⟩
    unfold Heap.row at hrow ⊢
    rw [hrows.none_ g hi hg]
    exact hrow
  imm := fun b o c hbc => by
   rcases hLe.imm b o c hbc with h | h | h
   ·exact .inl h
   ·exact .inr (.inl (hc.muts _ h))
   ·exact .inr (.inr h)
  blocks := fun k hk hm => hLe.blocks k hk fun h => hm (hc.muts k h)
  turn := fun k hk => by
   obtain ⟨g, b1, c1, e1, hb1, hrow, hnb, rfl⟩ := hk
   cases hi : inv D ρ H H1 g with
   | some i =>
    rw [backAt_some hi] at hb1
    obtain ⟨o', ho', hbo⟩ := hrows.some_ g i hi
    unfold Heap.row at hrow
    rw [ho'] at hrow
    obtain ⟨ob, c2, ho, hro⟩ := backO_row hbo (show o'.row = _ from hrow)
    rcases hLe.turn b1.blk ⟨i, b1, c2, e1, hb1, by unfold Heap.row; rw [ho]; exact hro, hnb, rfl⟩ with h | h
    ·exact .inl (hc.muts _ h)
    ·exact .inr h
   | none =>
    rw [backAt_none hi] at hb1
    split at hb1
    ·rename_i hg
     unfold Heap.row at hrow
     rw [hrows.none_ g hi hg] at hrow
     exact .inl ⟨g, b1, c1, e1, hb1, hrow, hnb, rfl⟩
    ·cases hb1 }
end frame
end Go.Vx
end
section
set_option linter.unusedVariables false
set_option linter.unusedSimpArgs false
namespace Go.Vx
def matLitS (v : AV) (l : List AV) (k : List AV → Prop) : Prop := match l with
 | u :: l => match litOk v u with
  | true => k l
  | false => False
 | [] => False
def matPtrS (g e z o : Nat) (l : List AV) (ρ : Rho) (k : List AV → Rho → Prop) : Prop := match l with
 | .ptr _ (some r) :: l => match Nat.beq r.e e && Nat.beq r.z z && Nat.beq r.o o with
  | true => match ρ.find g with
   | none => k l ((g, .whole r.g) :: ρ)
   | some (.whole g') => match Nat.beq g' r.g with
    | true => k l ρ
    | false => False
   | _ => False
  | false => False
 | _ => False
def matSlS (H : Heap) (g z : Nat) (l : List AV) (ρ : Rho) (k : List AV → Rho → Prop) : Prop := match l with
 | .slice _ none _ _ :: l => match ρ.find g with
   | none => k l ((g, .nil) :: ρ)
   | some .nil => k l ρ
   | _ => False
 | .slice t (some r) n z' :: l => match Nat.beq z' z && Nat.beq r.z z && Nat.beq r.o 0 with
  | true => match ρ.find g with
   | none => k l ((g, .win r.g r.e n z) :: ρ)
   | some (.whole g') => match Nat.beq g' r.g with
    | true => must (rowLen H r.g z) fun m => need true (r.e = 0 ∧ n = m) (k l ρ)
    | false => False
   | some (.win g' e' n' z0) => match Nat.beq g' r.g && Nat.beq z0 z with
    | true => need true (e' = r.e ∧ n' = n) (k l ρ)
    | false => False
   | _ => False
  | false => False
 | .vec t x :: l => match Nat.beq t.z z with
  | true => match ρ.find g with
   | none => k l ((g, .inl t x) :: ρ)
   | _ => False
  | false => False
 | _ => False
def matDatS (H : Heap) (t : Ty) (l : List AV) (k : List t.den → List AV → Prop) : Prop := match l with
 | .slice _ (some r) n z :: l => match H.get r.g with
  | some (.fro t' L _) => if h : t' = t then (match Nat.beq r.z t'.z && Nat.beq r.o 0 && Nat.beq z t'.z with
   | true => need true (r.e + n ≤ L.length) (k (h ▸ (L.drop r.e).take n) l)
   | false => False) else False
  | _ => False
 | l => decSlS t l k
def matPartS (g z : Nat) (l : List AV) (ρ : Rho) (k : Nat × Nat → List AV → Rho → Prop) : Prop := match l with
 | .slice _ (some r) n z' :: l => match Nat.beq z' z && Nat.beq r.z z && Nat.beq r.o 0 with
  | true => match ρ.find g with
   | none => k (r.e, n) l ((g, .whole r.g) :: ρ)
   | some (.whole g') => match Nat.beq g' r.g with
    | true => k (r.e, n) l ρ
    | false => False
   | _ => False
  | false => False
 | _ => False
def matVS (H : Heap) : (p : VP) → List AV → Rho → (p.den → List AV → Rho → Prop) → Prop
 | .bool, l, ρ, k => decBoolS l fun x l => k x l ρ
 | .int kd, l, ρ, k => decIntS kd l fun x l => k x l ρ
 | .num kd, l, ρ, k => decIntS kd l fun x l => k x l ρ
 | .byte, l, ρ, k => decByteS l fun x l => k x l ρ
 | .str, l, ρ, k => decStrS l fun x l => k x l ρ
 | .vec t, l, ρ, k => matDatS H t l fun x l => k x l ρ
 | .lit v, l, ρ, k => matLitS v l fun l => k () l ρ
 | .ptr g e z o, l, ρ, k => matPtrS g e z o l ρ fun l ρ => k () l ρ
 | .sl g z, l, ρ, k => matSlS H g z l ρ fun l ρ => k () l ρ
 | .part g z, l, ρ, k => matPartS g z l ρ k
 | .nil, l, ρ, k => k () l ρ
 | .cat a b, l, ρ, k => matVS H a l ρ fun x l ρ => matVS H b l ρ fun y l ρ => k (x, y) l ρ
 | .agg p, l, ρ, k => match l with
  | .agg cs :: l => matVS H p cs ρ fun x rest ρ => match rest with
   | [] => k x l ρ
   | _ => False
  | _ => False
 | .tup p, l, ρ, k => match l with
  | .tup cs :: l => matVS H p cs ρ fun x rest ρ => match rest with
   | [] => k x l ρ
   | _ => False
  | _ => False
 | .func f p q, l, ρ, k => match l with
  | .func f' xs ys :: l => if f' = f then matVS H p xs ρ fun x rest ρ => match rest with
    | [] => matVS H q ys ρ fun y rest ρ => match rest with
     | [] => k (x, y) l ρ
     | _ => False
    | _ => False
   else False
  | _ => False
def matVecS (H : Heap) (t : Ty) (ro : Bool) (s : Src) (k : List t.den → Prop) : Prop := match s with
 | .whole g => match H.get g with
  | some (.vec t' L _ ro') => if h : t' = t then (match ro || !ro' with
   | true => k (h ▸ L)
   | false => False) else False
  | _ => False
 | .win g e n z => match Nat.beq z t.z && !(Nat.beq z 0) with
  | true => match H.get g with
   | some (.vec t' L _ ro') => if h : t' = t then
     (match ro with
      | true => need true (e + n ≤ L.length) (k (h ▸ (L.drop e).take n))
      | false => match ro' with
       | false => need true (e = 0 ∧ n = L.length) (k (h ▸ L))
       | true => False) else False
   | some (.fro t' L _) => if h : t' = t then
     (match ro with
      | true => need true (e + n ≤ L.length) (k (h ▸ (L.drop e).take n))
      | false => False) else False
   | some (.cells cs _ ro') => match ro with
    | true => match Nat.ble (e * z + n * z) cs.length with
     | true => decLS t ((cs.drop (e * z)).take (n * z)) k
     | false => False
    | false => match Nat.beq e 0 && Nat.beq (n * z) cs.length && !ro' with
     | true => decLS t cs k
     | false => False
   | _ => False
  | false => False
 | .nil => k []
 | .inl t' l => if h : t' = t then (match ro && !(Nat.beq t.z 0) with
  | true => k (h ▸ l)
  | false => False) else False
def matRS (H : Heap) : (r : RP) → Option Src → Rho → (r.den → Rho → Prop) → Prop
 | .dead, _, ρ, k => k () ρ
 | .vec t e ro, s, ρ, k => match s with
  | some s => match ro || tySrc H e s with
   | true => matVecS H t ro s fun l => k l ρ
   | false => False
  | none => False
 | .cells p e ro, s, ρ, k => match s with
  | some (.whole g) => match H.get g with
   | some (.cells cs e' ro') => match ro || (!ro' && Nat.beq e' e) with
    | true => matVS H p cs ρ fun x rest ρ => match rest with
     | [] => k x ρ
     | _ => False
    | false => False
   | _ => False
  | _ => False
def matRsS (H : Heap) : (rs : List RP) → Nat → Rho → (rowsDen rs → Rho → Prop) → Prop
 | [], _, ρ, k => k () ρ
 | r :: rs, i, ρ, k => matRS H r (ρ.find i) ρ fun x ρ => matRsS H rs (i + 1) ρ fun xs ρ => k (x, xs) ρ
def Dom.matS (D : Dom) (vs : List AV) (H : Heap) (ρ0 : Rho) (k : D.den → Rho → Prop) : Prop :=
 matVS H D.vals vs ρ0 fun xv rest ρ1 => match rest with
  | [] => matRsS H D.rows 0 ρ1 fun xr ρ => match below D.rows.length ρ && injOk (froms ρ D.rows 0) && deads H ρ D.rows 0 && slsOk D with
   | true => k (xr, xv) ρ
   | false => False
  | _ => False
theorem matVS_elim {H : Heap} : (p : VP) → {l : List AV} → {ρ : Rho} → {k : p.den → List AV → Rho → Prop} → matVS H p l ρ k → ∃ x l' ρ', matV H p l ρ = some (x, l', ρ') ∧ k x l' ρ'
 | .bool, l, ρ, k, h => by
  simp only [matVS] at h
  obtain ⟨x, l', hd, hk⟩ := decS_elim .bool (k := fun x l => k x l ρ) h
  simp only [dec] at hd
  exact ⟨x, l', ρ, by simp only [matV, hd, Option.map_some], hk⟩
 | .int kd, l, ρ, k, h => by
  simp only [matVS] at h
  obtain ⟨x, l', hd, hk⟩ := decS_elim (.int kd) (k := fun x l => k x l ρ) h
  simp only [dec] at hd
  exact ⟨x, l', ρ, by simp only [matV, hd, Option.map_some], hk⟩
 | .num kd, l, ρ, k, h => by
  simp only [matVS] at h
  obtain ⟨x, l', hd, hk⟩ := decS_elim (.int kd) (k := fun x l => k x l ρ) h
  simp only [dec] at hd
  exact ⟨x, l', ρ, by simp only [matV, hd, Option.map_some], hk⟩
 | .byte, l, ρ, k, h => by
  simp only [matVS] at h
  obtain ⟨x, l', hd, hk⟩ := decS_elim .byte (k := fun x l => k x l ρ) h
  simp only [dec] at hd
  exact ⟨x, l', ρ, by simp only [matV, hd, Option.map_some], hk⟩
 | .str, l, ρ, k, h => by
  simp only [matVS] at h
  obtain ⟨x, l', hd, hk⟩ := decS_elim .str (k := fun x l => k x l ρ) h
  simp only [dec] at hd
  exact ⟨x, l', ρ, by simp only [matV, hd, Option.map_some], hk⟩
 | .vec t, l, ρ, k, h => by
  simp only [matVS] at h
  unfold matDatS at h
  split at h
  ·split at h
   ·rename_i hg
    split at h
    ·rename_i ht
     split at h
     ·rename_i hb
      simp only [Bool.and_eq_true] at hb
      obtain ⟨h1, h2⟩ := need_elim h
      exact ⟨_, _, ρ, by simp only [matV, matDat, hg, dif_pos ht]; rw [if_pos ⟨Nat.eq_of_beq_eq_true hb.1.1, Nat.eq_of_beq_eq_true hb.1.2, Nat.eq_of_beq_eq_true hb.2, h1⟩]; rfl, h2⟩
     ·exact h.elim
    ·exact h.elim
   ·exact h.elim
  ·rename_i hn
   obtain ⟨x, l', hd, hk⟩ := decS_elim (.sl t) (k := fun x l => k x l ρ) h
   simp only [dec] at hd
   have e : matDat H t l = decSl t l := by
    unfold matDat
    split
    ·rename_i b r n z l'; exact absurd rfl (hn b r n z l')
    ·rfl
   exact ⟨x, l', ρ, by simp only [matV, e, hd, Option.map_some], hk⟩
 | .lit v, l, ρ, k, h => by
  simp only [matVS] at h
  unfold matLitS at h
  split at h
  ·split at h
   ·rename_i hl; exact ⟨(), _, ρ, by simp only [matV, matLit, if_pos hl, Option.map_some], h⟩
   ·exact h.elim
  ·exact h.elim
 | .ptr g e z o, l, ρ, k, h => by
  simp only [matVS] at h
  unfold matPtrS at h
  split at h
  ·split at h
   ·rename_i hc
    simp only [Bool.and_eq_true] at hc
    have hc' := And.intro (Nat.eq_of_beq_eq_true hc.1.1) (And.intro (Nat.eq_of_beq_eq_true hc.1.2) (Nat.eq_of_beq_eq_true hc.2))
    split at h
    ·rename_i hf; exact ⟨(), _, _, by simp only [matV, matPtr, if_pos hc', hf, Option.map_some], h⟩
    ·rename_i g' hf
     split at h
     ·rename_i hg; exact ⟨(), _, _, by simp only [matV, matPtr, if_pos hc', hf, if_pos (Nat.eq_of_beq_eq_true hg), Option.map_some], h⟩
     ·exact h.elim
    ·exact h.elim
   ·exact h.elim
  ·exact h.elim
 | .sl g z, l, ρ, k, h => by
  simp only [matVS] at h
  unfold matSlS at h
  split at h
  ·split at h
   ·rename_i hf; exact ⟨(), _, _, by simp only [matV, matSl, hf, Option.map_some], h⟩
   ·rename_i hf; exact ⟨(), _, _, by simp only [matV, matSl, hf, Option.map_some], h⟩
   ·exact h.elim
  ·split at h
   ·rename_i hc
    simp only [Bool.and_eq_true] at hc
    have hc' := And.intro (Nat.eq_of_beq_eq_true hc.1.1) (And.intro (Nat.eq_of_beq_eq_true hc.1.2) (Nat.eq_of_beq_eq_true hc.2))
    split at h
    ·rename_i hf; exact ⟨(), _, _, by simp only [matV, matSl, if_pos hc', hf, Option.map_some], h⟩
    ·rename_i g' hf
     split at h
     ·rename_i hg
      obtain ⟨m, hm, h⟩ := must_elim h
      obtain ⟨h1, h2⟩ := need_elim h
      exact ⟨(), _, _, by simp only [matV, matSl, if_pos hc', hf]; rw [if_pos ⟨Nat.eq_of_beq_eq_true hg, h1.1, by rw [hm, h1.2]⟩]; rfl, h2⟩
     ·exact h.elim
    ·rename_i g' e' n' z0 hf
     split at h
     ·rename_i hg
      simp only [Bool.and_eq_true] at hg
      obtain ⟨h1, h2⟩ := need_elim h
      exact ⟨(), _, _, by simp only [matV, matSl, if_pos hc', hf]; rw [if_pos ⟨Nat.eq_of_beq_eq_true hg.1, h1.1, h1.2, Nat.eq_of_beq_eq_true hg.2⟩]; rfl, h2⟩
     ·exact h.elim
    ·exact h.elim
   ·exact h.elim
  ·split at h
   ·rename_i hz
    split at h
    ·rename_i hf; exact ⟨(), _, _, by simp only [matV, matSl, if_pos (Nat.eq_of_beq_eq_true hz), hf, Option.map_some], h⟩
    ·exact h.elim
   ·exact h.elim
  ·exact h.elim
 | .part g z, l, ρ, k, h => by
  simp only [matVS] at h
  unfold matPartS at h
  split at h
  ·split at h
   ·rename_i hc
    simp only [Bool.and_eq_true] at hc
    have hc' := And.intro (Nat.eq_of_beq_eq_true hc.1.1) (And.intro (Nat.eq_of_beq_eq_true hc.1.2) (Nat.eq_of_beq_eq_true hc.2))
    split at h
    ·rename_i hf; exact ⟨_, _, _, by simp only [matV, matPart, if_pos hc', hf], h⟩
    ·rename_i g' hf
     split at h
     ·rename_i hg; exact ⟨_, _, _, by simp only [matV, matPart, if_pos hc', hf, if_pos (Nat.eq_of_beq_eq_true hg)], h⟩
     ·exact h.elim
    ·exact h.elim
   ·exact h.elim
  ·exact h.elim
 | .nil, l, ρ, k, h => ⟨(), l, ρ, rfl, h⟩
 | .cat a b, l, ρ, k, h => by
  simp only [matVS] at h
  obtain ⟨x, l1, ρ1, h1, h⟩ := matVS_elim a h
  obtain ⟨y, l2, ρ2, h2, h⟩ := matVS_elim b h
  exact ⟨_, _, _, by simp only [matV, h1, h2], h⟩
 | .agg p, l, ρ, k, h => by
  simp only [matVS] at h
  split at h
  ·obtain ⟨x, l1, ρ1, h1, h⟩ := matVS_elim p h
   split at h
   ·exact ⟨_, _, _, by simp only [matV, h1], h⟩
   ·exact h.elim
  ·exact h.elim
 | .tup p, l, ρ, k, h => by
  simp only [matVS] at h
  split at h
  ·obtain ⟨x, l1, ρ1, h1, h⟩ := matVS_elim p h
   split at h
   ·exact ⟨_, _, _, by simp only [matV, h1], h⟩
   ·exact h.elim
  ·exact h.elim
 | .func f p q, l, ρ, k, h => by
  simp only [matVS] at h
  split at h
  ·split at h
   ·rename_i hf
    obtain ⟨x, l1, ρ1, h1, h⟩ := matVS_elim p h
    split at h
    ·obtain ⟨y, l2, ρ2, h2, h⟩ := matVS_elim q h
     split at h
     ·exact ⟨_, _, _, by simp only [matV, if_pos hf, h1, h2], h⟩
     ·exact h.elim
    ·exact h.elim
   ·exact h.elim
  ·exact h.elim
theorem matVecS_elim {H : Heap} {t : Ty} {ro : Bool} {s : Src} {k : List t.den → Prop} (h : matVecS H t ro s k) : ∃ l, matVec H t ro s = some l ∧ k l := by
 unfold matVecS at h
 split at h
 ·split at h
  ·rename_i hg
   split at h
   ·rename_i ht
    split at h
    ·rename_i hr
     refine ⟨_, ?_, h⟩
     simp only [matVec, hg, dif_pos ht]
     rw [if_pos (by intro e; rw [e] at hr; simpa using hr)]
    ·exact h.elim
   ·exact h.elim
  ·exact h.elim
 ·split at h
  ·rename_i hz
   have hz' : ∀ {z : Nat}, (Nat.beq z t.z && !(Nat.beq z 0)) = true → z = t.z ∧ z ≠ 0 := by
    intro z hz
    simp only [Bool.and_eq_true, Bool.not_eq_true'] at hz
    exact ⟨Nat.eq_of_beq_eq_true hz.1, Nat.ne_of_beq_eq_false hz.2⟩
   have hz := hz' hz
   split at h
   ·rename_i hg
    split at h
    ·rename_i ht
     split at h
     ·obtain ⟨h1, h2⟩ := need_elim h
      exact ⟨_, by simp only [matVec, if_pos hz, hg, dif_pos ht, if_pos h1], h2⟩
     ·split at h
      ·obtain ⟨h1, h2⟩ := need_elim h
       exact ⟨_, by simp only [matVec, if_pos hz, hg, dif_pos ht]; rw [if_pos ⟨h1.1, h1.2, trivial⟩], h2⟩
      ·exact h.elim
    ·exact h.elim
   ·rename_i hg
    split at h
    ·rename_i ht
     split at h
     ·obtain ⟨h1, h2⟩ := need_elim h
      exact ⟨_, by simp only [matVec, if_pos hz, hg, dif_pos ht, if_pos h1], h2⟩
     ·exact h.elim
    ·exact h.elim
   ·rename_i hg
    split at h
    ·split at h
     ·rename_i hb
      obtain ⟨l, hl, hk⟩ := decLS_elim h
      exact ⟨l, by simp only [matVec, if_pos hz, hg, if_pos (Nat.le_of_ble_eq_true hb), hl], hk⟩
     ·exact h.elim
    ·split at h
     ·rename_i hb
      obtain ⟨l, hl, hk⟩ := decLS_elim h
      simp only [Bool.and_eq_true, Bool.not_eq_true'] at hb
      exact ⟨l, by simp only [matVec, if_pos hz, hg]; rw [if_pos ⟨Nat.eq_of_beq_eq_true hb.1.1, Nat.eq_of_beq_eq_true hb.1.2, hb.2⟩, hl], hk⟩
     ·exact h.elim
   ·exact h.elim
  ·exact h.elim
 ·exact ⟨[], rfl, h⟩
 ·split at h
  ·rename_i ht
   split at h
   ·rename_i hc
    simp only [Bool.and_eq_true, Bool.not_eq_true'] at hc
    exact ⟨_, by simp only [matVec, dif_pos ht]; rw [if_pos ⟨hc.1, Nat.ne_of_beq_eq_false hc.2⟩], h⟩
   ·exact h.elim
  ·exact h.elim
theorem matRS_elim {H : Heap} : (r : RP) → {s : Option Src} → {ρ : Rho} → {k : r.den → Rho → Prop} → matRS H r s ρ k → ∃ x ρ', matR H r s ρ = some (x, ρ') ∧ k x ρ'
 | .dead, s, ρ, k, h => ⟨(), ρ, rfl, h⟩
 | .vec t e ro, s, ρ, k, h => by
  simp only [matRS] at h
  split at h
  ·split at h
   ·rename_i hty
    obtain ⟨l, hl, hk⟩ := matVecS_elim h
    refine ⟨l, ρ, ?_, hk⟩
    simp only [matR, hl, Option.map_some]
    rw [if_pos (by intro e; rw [e] at hty; simpa using hty)]
   ·exact h.elim
  ·exact h.elim
 | .cells p e ro, s, ρ, k, h => by
  simp only [matRS] at h
  split at h
  ·split at h
   ·rename_i hg
    split at h
    ·rename_i hr
     obtain ⟨x, l1, ρ1, h1, h⟩ := matVS_elim p h
     split at h
     ·refine ⟨_, _, ?_, h⟩
      simp only [matR, hg]
      rw [if_pos (by intro e; rw [e] at hr; simp only [Bool.false_or, Bool.and_eq_true, Bool.not_eq_true'] at hr; exact ⟨hr.1, Nat.eq_of_beq_eq_true hr.2⟩), h1]
     ·exact h.elim
    ·exact h.elim
   ·exact h.elim
  ·exact h.elim
theorem matRsS_elim {H : Heap} : (rs : List RP) → {i : Nat} → {ρ : Rho} → {k : rowsDen rs → Rho → Prop} → matRsS H rs i ρ k → ∃ x ρ', matRs H rs i ρ = some (x, ρ') ∧ k x ρ'
 | [], i, ρ, k, h => ⟨(), ρ, rfl, h⟩
 | r :: rs, i, ρ, k, h => by
  simp only [matRsS] at h
  obtain ⟨x, ρ1, h1, h⟩ := matRS_elim r h
  obtain ⟨xs, ρ2, h2, h⟩ := matRsS_elim rs h
  exact ⟨_, _, by simp only [matRs, h1, h2], h⟩
theorem Dom.matS_elim {D : Dom} {vs : List AV} {H : Heap} {ρ0 : Rho} {k : D.den → Rho → Prop} (h : D.matS vs H ρ0 k) : ∃ x ρ, D.mat vs H ρ0 = some (x, ρ) ∧ k x ρ := by
 unfold Dom.matS at h
 obtain ⟨xv, l1, ρ1, h1, h⟩ := matVS_elim D.vals h
 split at h
 ·obtain ⟨xr, ρ2, h2, h⟩ := matRsS_elim D.rows h
  split at h
  ·rename_i hc
   simp only [Bool.and_eq_true] at hc
   refine ⟨_, _, ?_, h⟩
   unfold Dom.mat
   simp only [h1, h2]
   rw [if_pos ⟨hc.1.1.1, hc.1.1.2, hc.1.2, hc.2⟩]
  ·exact h.elim
 ·exact h.elim
mutual
def backS (W : Way) : AV → (AV → Prop) → Prop
 | .ptr t none, k => k (.ptr t none)
 | .ptr t (some r), k => match W.to r.g with
  | some (.row g) => k (.ptr t (some ⟨g, r.e, r.z, r.o⟩))
  | some (.win g e z) => match Nat.beq r.z z with
   | true => k (.ptr t (some ⟨g, e + r.e, r.z, r.o⟩))
   | false => False
  | some (.inl t' l) => match Nat.beq r.z t'.z with
   | true => k (.eptr t' l r.e r.o)
   | false => False
  | none => False
 | .slice t none n z, k => k (.slice t none n z)
 | .slice t (some r) n z, k => match W.to r.g with
  | some (.row g) => k (.slice t (some ⟨g, r.e, r.z, r.o⟩) n z)
  | some (.win g e z') => match Nat.beq r.z z' with
   | true => k (.slice t (some ⟨g, e + r.e, r.z, r.o⟩) n z)
   | false => False
  | some (.inl t' l) => match Nat.beq r.z t'.z && Nat.beq r.o 0 && Nat.beq z t'.z with
   | true => need true (r.e + n ≤ l.length) (k (.vec t' ((l.drop r.e).take n)))
   | false => False
  | none => False
 | .agg l, k => backLS W l fun l => k (.agg l)
 | .tup l, k => backLS W l fun l => k (.tup l)
 | .func f a b, k => backLS W a fun a => backLS W b fun b => k (.func f a b)
 | v, k => k v
def backLS (W : Way) : List AV → (List AV → Prop) → Prop
 | [], k => k []
 | v :: l, k => backS W v fun v => backLS W l fun l => k (v :: l)
end
mutual
theorem backS_elim {W : Way} : ∀ {v : AV} {k : AV → Prop}, backS W v k → ∃ v', back W v = some v' ∧ k v'
 | .ptr t none, k, h => by simp only [backS] at h; exact ⟨_, by simp only [back], h⟩
 | .ptr t (some r), k, h => by
  simp only [backS] at h
  split at h
  ·rename_i hd; exact ⟨_, by simp only [back, hd], h⟩
  ·rename_i hd
   split at h
   ·rename_i hz; exact ⟨_, by simp only [back, hd, if_pos (Nat.eq_of_beq_eq_true hz)], h⟩
   ·exact h.elim
  ·rename_i hd
   split at h
   ·rename_i hz; exact ⟨_, by simp only [back, hd, if_pos (Nat.eq_of_beq_eq_true hz)], h⟩
   ·exact h.elim
  ·exact h.elim
 | .slice t none n z, k, h => by simp only [backS] at h; exact ⟨_, by simp only [back], h⟩
 | .slice t (some r) n z, k, h => by
  simp only [backS] at h
  split at h
  ·rename_i hd; exact ⟨_, by simp only [back, hd], h⟩
  ·rename_i hd
   split at h
   ·rename_i hz; exact ⟨_, by simp only [back, hd, if_pos (Nat.eq_of_beq_eq_true hz)], h⟩
   ·exact h.elim
  ·rename_i hd
   split at h
   ·rename_i hc
    simp only [Bool.and_eq_true] at hc
    obtain ⟨h1, h2⟩ := need_elim h
    exact ⟨_, by simp only [back, hd]; rw [if_pos ⟨Nat.eq_of_beq_eq_true hc.1.1, Nat.eq_of_beq_eq_true hc.1.2, Nat.eq_of_beq_eq_true hc.2, h1⟩], h2⟩
   ·exact h.elim
  ·exact h.elim
 | .agg l, k, h => by
  simp only [backS] at h
  obtain ⟨l', hl, hk⟩ := backLS_elim (k := fun l => k (.agg l)) h
  exact ⟨_, by simp only [back, hl, Option.map_some], hk⟩
 | .tup l, k, h => by
  simp only [backS] at h
  obtain ⟨l', hl, hk⟩ := backLS_elim (k := fun l => k (.tup l)) h
  exact ⟨_, by simp only [back, hl, Option.map_some], hk⟩
 | .func f a b, k, h => by
  simp only [backS] at h
  obtain ⟨a', ha, h⟩ := backLS_elim (k := fun a => backLS W b fun b => k (.func f a b)) h
  obtain ⟨b', hb, hk⟩ := backLS_elim (k := fun b => k (.func f a' b)) h
  exact ⟨_, by simp only [back, ha, hb], hk⟩
 | .bool t b, k, h => by simp only [backS] at h; exact ⟨_, by simp only [back], h⟩
 | .int t kd n, k, h => by simp only [backS] at h; exact ⟨_, by simp only [back], h⟩
 | .str t s, k, h => by simp only [backS] at h; exact ⟨_, by simp only [back], h⟩
 | .vec t l, k, h => by simp only [backS] at h; exact ⟨_, by simp only [back], h⟩
 | .eptr t l e o, k, h => by simp only [backS] at h; exact ⟨_, by simp only [back], h⟩
 | .map r, k, h => by simp only [backS] at h; exact ⟨_, by simp only [back], h⟩
 | .nilFunc, k, h => by simp only [backS] at h; exact ⟨_, by simp only [back], h⟩
 | .nilIface, k, h => by simp only [backS] at h; exact ⟨_, by simp only [back], h⟩
theorem backLS_elim {W : Way} : ∀ {v : List AV} {k : List AV → Prop}, backLS W v k → ∃ v', backL W v = some v' ∧ k v'
 | [], k, h => by simp only [backLS] at h; exact ⟨_, by simp only [backL], h⟩
 | x :: l, k, h => by
  simp only [backLS] at h
  obtain ⟨x', hx, h⟩ := backS_elim (k := fun v => backLS W l fun l => k (v :: l)) h
  obtain ⟨l', hl, hk⟩ := backLS_elim (k := fun l => k (x' :: l)) h
  exact ⟨_, by simp only [backL, hx, hl], hk⟩
end
def backOS (W : Way) (o : Option AObj) (k : AObj → Prop) : Prop := match o with
 | none => k .dead
 | some .dead => k .dead
 | some (.cells cs e ro) => backLS W cs fun cs' => k (.cells cs' e ro)
 | some (.vec t l e ro) => k (.vec t l e ro)
 | some (.fro _ _ _) => False
theorem backOS_elim {W : Way} {o : Option AObj} {k : AObj → Prop} (h : backOS W o k) : ∃ o', backO W o = some o' ∧ k o' := by
 unfold backOS at h
 split at h
 ·exact ⟨_, rfl, h⟩
 ·exact ⟨_, rfl, h⟩
 ·obtain ⟨c, hc, hk⟩ := backLS_elim h; exact ⟨_, by simp only [backO, hc, Option.map_some], hk⟩
 ·exact ⟨_, rfl, h⟩
 ·exact h.elim
def backNewS (W : Way) (o : Option AObj) (k : AObj → Prop) : Prop := match o with
 | some (.cells cs e false) => backLS W cs fun cs' => k (.cells cs' e false)
 | some (.vec t l e false) => k (.vec t l e false)
 | some (.cells _ _ true) => False
 | some (.vec _ _ _ true) => False
 | some (.fro _ _ _) => False
 | _ => k .dead
theorem backNewS_elim {W : Way} {o : Option AObj} {k : AObj → Prop} (h : backNewS W o k) : ∃ o', backNew W o = some o' ∧ k o' := by
 unfold backNewS at h
 split at h
 ·obtain ⟨c, hc, hk⟩ := backLS_elim h; exact ⟨_, by simp only [backNew, hc, Option.map_some], hk⟩
 ·exact ⟨_, rfl, h⟩
 ·exact h.elim
 ·exact h.elim
 ·exact h.elim
 ·rename_i h1 h2 h3 h4 h5
  refine ⟨.dead, ?_, h⟩
  unfold backNew
  split
  ·rename_i cs e; exact absurd rfl (h1 cs e)
  ·rename_i t l e; exact absurd rfl (h2 t l e)
  ·rename_i cs e; exact absurd rfl (h3 cs e)
  ·rename_i t l e; exact absurd rfl (h4 t l e)
  ·rename_i t l e; exact absurd rfl (h5 t l e)
  ·rfl
def objsRwS (W : Way) (H1 : Heap) : List (Nat × Nat) → (List (Nat × AObj) → Prop) → Prop
 | [], k => k []
 | (g, i) :: l, k => backOS W (H1.get i) fun o => objsRwS W H1 l fun os => k ((g, o) :: os)
theorem objsRwS_elim {W : Way} {H1 : Heap} : ∀ {l : List (Nat × Nat)} {k : List (Nat × AObj) → Prop}, objsRwS W H1 l k → ∃ L, objsRw W H1 l = some L ∧ k L
 | [], k, h => ⟨[], rfl, h⟩
 | (g, i) :: l, k, h => by
  simp only [objsRwS] at h
  obtain ⟨o, ho, h⟩ := backOS_elim h
  obtain ⟨os, hos, h⟩ := objsRwS_elim h
  exact ⟨_, by simp only [objsRw, ho, hos], h⟩
def objsNewS (W : Way) (H1 : Heap) : List Nat → (List AObj → Prop) → Prop
 | [], k => k []
 | i :: l, k => match roNil W i with
  | true => backOS W (H1.get i) fun o => objsNewS W H1 l fun os => k (o :: os)
  | false => backNewS W (H1.get i) fun o => objsNewS W H1 l fun os => k (o :: os)
theorem objsNewS_elim {W : Way} {H1 : Heap} : ∀ {l : List Nat} {k : List AObj → Prop}, objsNewS W H1 l k → ∃ L, objsNew W H1 l = some L ∧ k L
 | [], k, h => ⟨[], rfl, h⟩
 | i :: l, k, h => by
  simp only [objsNewS] at h
  split at h
  ·rename_i hr
   obtain ⟨o, ho, h⟩ := backOS_elim h
   obtain ⟨os, hos, h⟩ := objsNewS_elim h
   exact ⟨_, by simp only [objsNew, hr, cond_true, ho, hos], h⟩
  ·rename_i hr
   obtain ⟨o, ho, h⟩ := backNewS_elim h
   obtain ⟨os, hos, h⟩ := objsNewS_elim h
   exact ⟨_, by simp only [objsNew, hr, cond_false, ho, hos], h⟩
def backHS (D : Dom) (ρ : Rho) (H H1 : Heap) (k : Heap → Prop) : Prop :=
 objsRwS (wayOf D ρ H H1) H1 (rwRows ρ D.rows 0) fun L => objsNewS (wayOf D ρ H H1) H1 (newRows ρ D.rows.length H1.n) fun NL => k (pushes (setsL H L) NL)
theorem backHS_elim {D : Dom} {ρ : Rho} {H H1 : Heap} {k : Heap → Prop} (h : backHS D ρ H H1 k) : ∃ H', backH D ρ H H1 = some H' ∧ k H' := by
 unfold backHS at h
 obtain ⟨L, hL, h⟩ := objsRwS_elim h
 obtain ⟨NL, hNL, h⟩ := objsNewS_elim h
 refine ⟨_, ?_, h⟩
 unfold backH
 unfold wayOf at hL hNL
 simp only [hL, hNL]
structure Con where
 D : Dom
 A : Dom
 B : Dom := ⟨[], .nil⟩
 pre : D.den → Prop := fun _ => True
 spec : D.den → A.den ⊕ B.den
 use : D.den → (A.den → Prop) → (B.den → Prop) → Prop := fun x ka kb => match spec x with
  | .inl y => ka y
  | .inr y => kb y
 ok : ∀ x ka kb, use x ka kb → (match spec x with
  | .inl y => ka y
  | .inr y => kb y) := by intro x ka kb h; exact h
def Dom.one (D : Dom) (y : D.den) : AV := match D.args y with
 | [v] => v
 | _ => .tup []
def Con.val (C : Con) (x : C.D.den) : AV := match C.spec x with
 | .inl y => C.A.one y
 | .inr y => C.B.one y
def Con.heap (C : Con) (x : C.D.den) : Heap := match C.spec x with
 | .inl y => C.A.heap y
 | .inr y => C.B.heap y
def CallsTo (P : Program) (f : FuncId) (args : List AV) (H : Heap) (v : AV) (H' : Heap) : Prop :=
 ∀ (β : At) (w : World) (cargs : Array Value), Rel β H w → VsRel H.n β args cargs.toList →
  Calls P f cargs w fun e w' => ∃ β' c, e = .returned c ∧ Rel β' H' w' ∧ Le β H w β' H' w' ∧ VRel H'.n β' v c
def ConOk (P : Program) (f : FuncId) (C : Con) : Prop := ∀ x, C.pre x → CallsTo P f (C.D.args x) (C.D.heap x) (C.val x) (C.heap x)
abbrev Book := FuncId → List AV → Heap → Option Con
def BookOk (P : Program) (T : Book) : Prop := ∀ f args H C, T f args H = some C → ConOk P f C
def noDead (D : Dom) : Bool := D.rows.all fun r => !r.dead?
open Classical in
noncomputable def Book.cl (T : Book) : Caller := fun f args H => match T f args H with
 | none => none
 | some C => match C.D.mat args H [] with
  | none => none
  | some (x, ρ) => if C.pre x ∧ noDead C.D = true then
    match back (wayOf C.D ρ H (C.heap x)) (C.val x), backH C.D ρ H (C.heap x) with
    | some v, some H' => some (v, H')
    | _, _ => none
   else none
def Book.S (T : Book) : Handler := fun f args H k => match T f args H with
 | none => False
 | some C => match noDead C.D with
  | true => C.D.matS args H [] fun x ρ => C.pre x ∧ (C.use x
    (fun y => forceH (C.A.heap y) fun H1 => backS (wayOf C.D ρ H H1) (C.A.one y) fun v => backHS C.D ρ H H1 fun H' => k v H')
    (fun y => forceH (C.B.heap y) fun H1 => backS (wayOf C.D ρ H H1) (C.B.one y) fun v => backHS C.D ρ H H1 fun H' => k v H'))
  | false => False
theorem Book.cls (T : Book) : ClS T.S T.cl := by
 intro f args H k h
 unfold Book.S at h
 unfold Book.cl
 split at h
 ·exact h.elim
 ·rename_i C hC
  split at h
  ·rename_i hnd
   obtain ⟨x, ρ, hm, h⟩ := Dom.matS_elim h
   obtain ⟨hp, h⟩ := h
   have h := C.ok _ _ _ h
   simp only [hm, if_pos (And.intro hp hnd)]
   unfold Con.val Con.heap
   split at h
   ·rename_i y hy
    obtain ⟨v, hv, h⟩ := backS_elim (forceH_elim h)
    obtain ⟨H', hH, h⟩ := backHS_elim h
    simp only [hy, hv, hH]
    exact ⟨v, H', rfl, h⟩
   ·rename_i y hy
    obtain ⟨v, hv, h⟩ := backS_elim (forceH_elim h)
    obtain ⟨H', hH, h⟩ := backHS_elim h
    simp only [hy, hv, hH]
    exact ⟨v, H', rfl, h⟩
  ·exact h.elim
theorem hlt_of {H : Heap} {β : At} {w : World} (hR : Rel β H w) {D : Dom} {x : D.den} {ρ : Rho} {B : Nat → Option Base} {cs : List Value} (hc : Cast D x H β w ρ B cs) : ∀ i r g, D.rows[i]? = some r → r.rw = true → Src.row? (ρ.find i) = some g → g < H.n := by
 intro i r g hr hrw hs
 obtain ⟨s, bs, hs', _, _, _, hm⟩ := hc.row i r hr (live_of_rw hrw)
 rw [hs'] at hs
 rcases hm hrw with ⟨h, _⟩ | ⟨g', c, e, hg', _, hrow⟩
 ·subst h; cases hs
 ·rw [hs] at hg'; cases hg'; exact hR.row_lt hrow
theorem Book.callOk {P : Program} {T : Book} (hT : BookOk P T) : CallOk P T.cl := by
 intro f args H v H' h β w cargs hR ha
 unfold Book.cl at h
 split at h
 ·cases h
 ·rename_i C hC
  split at h
  ·cases h
  ·rename_i x ρ hm
   split at h
   ·rename_i hp
    split at h
    ·rename_i v0 H0 hv hH
     cases h
     obtain ⟨B, hc, _, _⟩ := cast_sound hR hm ha (B0 := fun _ => none) (fun g s hs => by simp [Rho.find] at hs)
     have hnd : ∀ r, r ∈ C.D.rows → r.dead? = false := by
      have := hp.2
      unfold noDead at this
      intro r hr
      simpa using List.all_eq_true.1 this r hr
     refine (hT f args H C hC x hp.1 (C.D.at_ β B) w cargs hc.rel (by rw [Dom.heap_n]; exact hc.args)).mono ?_
     rintro e w' ⟨β1, c, rfl, hR1, hLe, hv1⟩
     have hrows := backH_rows hR.fresh hc (hlt_of hR hc) hH
     obtain ⟨q1, q2, q3⟩ := frame_sound hR hc hnd hR1 hLe hrows
     exact ⟨_, c, rfl, q1, q2, q3 _ _ _ hv hv1⟩
    ·cases h
   ·cases h
theorem Book.later (T : Book) : ClLater T.cl := by
 intro f args H v H' h
 unfold Book.cl at h
 split at h
 ·cases h
 ·split at h
  ·cases h
  ·split at h
   ·split at h
    ·rename_i hH
     cases h
     unfold backH at hH
     split at hH
     ·rename_i L NL hL hNL
      cases hH
      have h1 : Later H (setsL H L) := by
       clear hL
       induction L with
       | nil => exact Later.refl _
       | cons p L ih => exact ih.trans (Later.set _ _ _)
      have h2 : ∀ (NL : List AObj) (H0 : Heap), Later H0 (pushes H0 NL) := by
       intro NL
       induction NL with
       | nil => intro H0; exact Later.refl _
       | cons o NL ih => intro H0; exact (Later.push _ _).trans (ih _)
      exact h1.trans (h2 _ _)
     ·cases hH
    ·cases h
   ·cases h
end Go.Vx
end
section
set_option linter.unusedVariables false
set_option linter.unusedSimpArgs false
namespace Go.Vx
def setsT : List Nat → List AV → Trie AV → Trie AV
 | i :: is, v :: vs, t => setsT is vs (t.set i v)
 | _, _, t => t
def tmOf (N : Nat) (live : List Nat) (vs : List AV) : Tm := { n := N, t := setsT live vs .leaf }
def valsOf (m : Tm) : List Nat → Option (List AV)
 | [] => some []
 | i :: l => match m.get i, valsOf m l with
  | some v, some vs => some (v :: vs)
  | _, _ => none
def setsK : List Nat → List AV → Trie AV → (Trie AV → Prop) → Prop
 | i :: is, v :: vs, t, k => setK (i + 1) t i v fun t => setsK is vs t k
 | [], _, t, k => k t
 | _ :: _, [], t, k => k t
theorem setsK_elim : ∀ {is : List Nat} {vs : List AV} {t : Trie AV} {k : Trie AV → Prop}, setsK is vs t k → k (setsT is vs t)
 | i :: is, v :: vs, t, k, h => by
  simp only [setsK] at h
  have := setK_elim h
  simp only [setsT]
  exact setsK_elim this
 | [], vs, t, k, h => by cases vs <;> simpa only [setsK, setsT] using h
 | _ :: _, [], t, k, h => by simpa only [setsK, setsT] using h
theorem valsOf_rel {N : Nat} {β : At} {m : Tm} {tmps : Array Value} (hT : TRel N β m tmps) : ∀ {l : List Nat} {vs : List AV}, valsOf m l = some vs → ∃ cs : List Value, VsRel N β vs cs ∧ cs.length = l.length ∧ ∀ (j i : Nat), l[j]? = some i → tmps[i]? = cs[j]?
 | [], vs, h => by simp only [valsOf, Option.some.injEq] at h; subst h; exact ⟨[], .nil, rfl, fun j i h => by simp at h⟩
 | i :: l, vs, h => by
  simp only [valsOf] at h
  split at h
  ·rename_i v vs' h1 h2
   cases h
   obtain ⟨c, hc, hr⟩ := hT.2 i v h1
   obtain ⟨cs, hcs, hl, hg⟩ := valsOf_rel hT h2
   refine ⟨c :: cs, .cons _ _ _ _ hr hcs, by simp [hl], fun j i' hj => ?_⟩
   cases j with
   | zero => simp at hj; subst hj; simpa using hc
   | succ j => simpa using hg j i' (by simpa using hj)
  ·cases h
theorem setsT_get : ∀ (is : List Nat) (vs : List AV) (t : Trie AV) (i : Nat) (v : AV), (setsT is vs t).get i = some v → (∃ j : Nat, is[j]? = some i ∧ vs[j]? = some v) ∨ t.get i = some v
 | [], vs, t, i, v, h => by cases vs <;> exact .inr h
 | _ :: _, [], t, i, v, h => .inr h
 | i0 :: is, v0 :: vs, t, i, v, h => by
  simp only [setsT] at h
  rcases setsT_get is vs _ i v h with ⟨j, h1, h2⟩ | h1
  ·exact .inl ⟨j + 1, by simpa using h1, by simpa using h2⟩
  ·rw [Trie.get_set] at h1
   split at h1
   ·rename_i e; cases h1; exact .inl ⟨0, by simp [e], by simp⟩
   ·exact .inr h1
theorem tmOf_rel {N n : Nat} {β : At} {tmps : Array Value} {live : List Nat} {vs : List AV} {cs : List Value} (hs : tmps.size = n) (hv : VsRel N β vs cs) (hg : ∀ (j i : Nat), live[j]? = some i → tmps[i]? = cs[j]?) : TRel N β (tmOf n live vs) tmps := by
 refine ⟨hs, fun i v h => ?_⟩
 unfold tmOf Tm.get at h
 simp only at h
 rcases setsT_get _ _ _ _ _ h with ⟨j, h1, h2⟩ | h1
 ·obtain ⟨c, hc, hr⟩ := hv.at j v h2
  exact ⟨c, by rw [hg j i h1]; exact hc, hr⟩
 ·rw [Trie.get_leaf] at h1; cases h1
def View' (D : Dom) (live : List Nat) (K : Nat) (m : Tm) (H : Heap) (k : D.den → Prop) : Prop :=
 match Nat.ble K D.rows.length with
 | true => must (valsOf m live) fun vs => D.matS vs H (keepK K) fun x _ => k x
 | false => False
theorem view_sound {D : Dom} {live : List Nat} {K : Nat} {m : Tm} {H : Heap} {k : D.den → Prop} (h : View' D live K m H k) {β : At} {w : World} (hR : Rel β H w) {S : Start} (hSK : S.H.n = K) (hS : S.le β H w) {tmps : Array Value} (hT : TRel H.n β m tmps) :
  ∃ x, k x ∧ ∃ β1, Rel β1 (D.heap x) w ∧ S.le β1 (D.heap x) w ∧ TRel (D.heap x).n β1 (tmOf m.n live (D.args x)) tmps := by
 unfold View' at h
 split at h
 ·rename_i hK
  obtain ⟨vs, hvs, h⟩ := must_elim h
  obtain ⟨x, ρ, hm, hk⟩ := Dom.matS_elim h
  obtain ⟨cs, hcs, _, hg⟩ := valsOf_rel hT hvs
  obtain ⟨β1, q1, q2, q3⟩ := recast hR hm (Nat.le_of_ble_eq_true hK) hcs hSK hS
  exact ⟨x, hk, β1, q1, q2, tmOf_rel hT.1 q3 hg⟩
 ·exact h.elim
def firstId : Code → Option Nat
 | .region id _ _ => some id
 | .seq a b => match firstId a with
  | some i => some i
  | none => firstId b
 | .cond _ a b => match firstId a with
  | some i => some i
  | none => firstId b
 | .block _ b => firstId b
 | .loop b => firstId b
 | _ => none
def isLoop (id : Nat) (b : Code) : Bool := match firstId b with
 | some i => Nat.beq i id
 | none => false
def loopsOf (c : Code) (id : Nat) : List Code := (loops c).filter (isLoop id)
def loopAt (c : Code) (id : Nat) : Code := match loopsOf c id with
 | [b] => b
 | _ => .skip
def oneLoop (c : Code) (id : Nat) : Bool := match loopsOf c id with
 | [_] => true
 | _ => false
theorem oneLoop_spec {c : Code} {id : Nat} (h : oneLoop c id = true) : loopsOf c id = [loopAt c id] := by
 unfold oneLoop at h
 unfold loopAt
 cases e : loopsOf c id with
 | nil => rw [e] at h; cases h
 | cons b t =>
  cases t with
  | nil => rfl
  | cons b' t => rw [e] at h; cases h
structure Lap where
 id : Nat
 N : Nat
 live : List Nat
 D : Dom
 oA : Out
 liveA : List Nat
 A : Dom
 oB : Out := .ret
 liveB : List Nat := []
 B : Dom := ⟨[], .nil⟩
 /-- Which arrivals it is for. -/
 sel : Tm → Heap → Bool := fun _ _ => true
 inv : D.den → Prop := fun _ => True
 /-- What may come out, at the one end, at the other. -/
 relA : D.den → A.den → Prop
 relB : D.den → B.den → Prop := fun _ _ => False
 use : D.den → (A.den → Prop) → (B.den → Prop) → Prop := fun x ka _ => ∀ y, relA x y → ka y
 ok : ∀ x ka kb, use x ka kb → (∀ y, relA x y → ka y) ∧ (∀ y, relB x y → kb y) := by intro x ka kb h; exact ⟨h, fun y hy => hy.elim⟩
def usedAll (H : Heap) : Bool := (List.range H.n).all fun g => match H.get g with
 | some (.cells (.ptr _ none :: _) e _) => Nat.blt e KT
 | _ => true
def Lap.used (l : Lap) : Lap := { l with sel := fun _ H => usedAll H }
def Lap.tm (l : Lap) (x : l.D.den) : Tm := tmOf l.N l.live (l.D.args x)
def Lap.tmA (l : Lap) (y : l.A.den) : Tm := tmOf l.N l.liveA (l.A.args y)
def Lap.tmB (l : Lap) (y : l.B.den) : Tm := tmOf l.N l.liveB (l.B.args y)
def Lap.behind (l : Lap) (x : l.D.den) (k : Out → Tm → Heap → Prop) : Prop :=
 (∀ y, l.relA x y → k l.oA (l.tmA y) (l.A.heap y)) ∧ ∀ y, l.relB x y → k l.oB (l.tmB y) (l.B.heap y)
def endT (o : Out) (N : Nat) (live : List Nat) (D : Dom) (k : Out → Tm → Heap → Prop) (y : D.den) : Prop :=
 forceL (D.args y) fun vs => setsK live vs .leaf fun t => forceH (D.heap y) fun H => k o ⟨N, t⟩ H
theorem endT_elim {o : Out} {N : Nat} {live : List Nat} {D : Dom} {k : Out → Tm → Heap → Prop} {y : D.den} (h : endT o N live D k y) : k o (tmOf N live (D.args y)) (D.heap y) := by
 unfold endT at h
 exact forceH_elim (setsK_elim (forceL_elim h))
def Lap.L (l : Lap) (K : Nat) (m : Tm) (H : Heap) (k : Out → Tm → Heap → Prop) : Prop :=
 match Nat.beq m.n l.N with
 | true => View' l.D l.live K m H fun x => l.inv x ∧ l.use x (endT l.oA l.N l.liveA l.A k) (endT l.oB l.N l.liveB l.B k)
 | false => False
def LapOk (P : Program) (K : Nat) (c : Code) (l : Lap) : Prop :=
 ∀ S : Start, S.H.n = K → ∀ x, l.inv x → ∀ k, l.behind x k → GoodIn P S (loopAt c l.id) (l.tm x) (l.D.heap x) k
theorem LapOk.used {P : Program} {K : Nat} {c : Code} {l : Lap} (h : LapOk P K c l) : LapOk P K c l.used := h
def lapsL (K : Nat) : List Lap → LoopH
 | [], _, _, _, _ => none
 | l :: ls, b, m, H, k => match isLoop l.id b with
  | true => match l.sel m H with
   | true => some (l.L K m H k)
   | false => lapsL K ls b m H k
  | false => lapsL K ls b m H k
theorem Wants.mono {S : Start} {d : Act} {k k' : Out → Tm → Heap → Prop} {Q : Exit → Act → World → Prop} (h : Wants S d k Q) (hk : ∀ o m H, k' o m H → k o m H) : Wants S d k' Q := fun o m H hq => h o m H (hk o m H hq)
theorem laps_ok {P : Program} {K : Nat} {c : Code} : ∀ {ls : List Lap}, (∀ l, l ∈ ls → LapOk P K c l ∧ oneLoop c l.id = true) → LInOk P K (loops c) (lapsL K ls)
 | [], _, S, hSK, b, hb, m, H, k, p, hp, h => by simp only [lapsL] at hp; cases hp
 | l :: ls, hls, S, hSK, b, hb, m, H, k, p, hp, h => by
  simp only [lapsL] at hp
  split at hp
  ·rename_i hi
   split at hp
   case h_2 => exact laps_ok (fun l hl => hls l (by simp [hl])) S hSK b hb m H k p hp h
   cases hp
   obtain ⟨hl, h1⟩ := hls l (by simp)
   have hbl : loopAt c l.id = b := by
    have hm : b ∈ loopsOf c l.id := List.mem_filter.2 ⟨hb, hi⟩
    rw [oneLoop_spec h1] at hm
    simp at hm
    exact hm.symm
   rw [← hbl]
   unfold Lap.L at h
   split at h
   ·rename_i hn
    have hn := Nat.eq_of_beq_eq_true hn
    intro a β w hR hS hT Q hQ
    obtain ⟨x, ⟨hinv, hu⟩, β1, q1, q2, q3⟩ := view_sound h hR hSK hS hT
    rw [hn] at q3
    refine hl S hSK x hinv k ?_ a β1 w q1 q2 q3 Q hQ
    have := l.ok _ _ _ hu
    exact ⟨fun y hy => endT_elim (this.1 y hy), fun y hy => endT_elim (this.2 y hy)⟩
   ·exact h.elim
  ·exact laps_ok (fun l hl => hls l (by simp [hl])) S hSK b hb m H k p hp h
def Lap.round (l : Lap) (K : Nat) (again : l.D.den → Prop) (qa : l.A.den → Prop) (qb : l.B.den → Prop) : Out → Tm → Heap → Prop := fun o m H =>
 match o with
 | .norm => match Nat.beq m.n l.N with
  | true => View' l.D l.live K m H again
  | false => False
 | o => match Nat.beq m.n l.N with
  | true => bif outEq o l.oA then View' l.A l.liveA K m H qa else bif outEq o l.oB then View' l.B l.liveB K m H qb else False
  | false => False
where outEq : Out → Out → Bool
 | .norm, .norm => true
 | .ret, .ret => true
 | .exit i, .exit j => Nat.beq i j
 | _, _ => false
theorem outEq_eq {a b : Out} (h : Lap.round.outEq a b = true) : a = b := by
 unfold Lap.round.outEq at h
 split at h
 ·rfl
 ·rfl
 ·rw [Nat.eq_of_beq_eq_true h]
 ·cases h
def HOk (P : Program) (S : Handler) : Prop := ∃ cl, ClS S cl ∧ CallOk P cl ∧ ClLater cl
theorem BookOk.hok {P : Program} {T : Book} (hT : BookOk P T) : HOk P T.S := ⟨T.cl, T.cls, T.callOk hT, T.later⟩
theorem lap_ok {P : Program} (hm : P.follows .mixedOrders = true) {S0 : Handler} (hS0 : HOk P S0) {K : Nat} {c : Code} {l : Lap} {ls : List Lap} (hls : ∀ l, l ∈ ls → LapOk P K c l ∧ oneLoop c l.id = true) (h1 : oneLoop c l.id = true) (hC : codeOk P (loopAt c l.id) = true) (n : Nat) (μ : l.D.den → Nat)
  (h : ∀ x, l.inv x → execS P S0 S0 (lapsL K ls) n (loopAt c l.id) (l.tm x) (l.D.heap x) (l.round K (fun x' => l.inv x' ∧ μ x' < μ x ∧ (∀ y, l.relA x' y → l.relA x y) ∧ ∀ y, l.relB x' y → l.relB x y) (l.relA x) (l.relB x))) : LapOk P K c l := by
 have hsub : ∀ b, b ∈ loops (loopAt c l.id) → b ∈ loops c := by
  have hb : loopAt c l.id ∈ loops c := by
   have : loopAt c l.id ∈ loopsOf c l.id := by rw [oneLoop_spec h1]; simp
   exact (List.mem_filter.1 this).1
  have key : ∀ (c : Code) (b : Code), b ∈ loops c → ∀ b', b' ∈ loops b → b' ∈ loops c := by
   intro c
   induction c with
   | seq x y ihx ihy =>
    intro b hb b' hb'
    simp only [loops, List.mem_append] at hb ⊢
    rcases hb with hb | hb
    ·exact .inl (ihx b hb b' hb')
    ·exact .inr (ihy b hb b' hb')
   | cond q x y ihx ihy =>
    intro b hb b' hb'
    simp only [loops, List.mem_append] at hb ⊢
    rcases hb with hb | hb
    ·exact .inl (ihx b hb b' hb')
    ·exact .inr (ihy b hb b' hb')
   | block id x ih => intro b hb b' hb'; exact ih b hb b' hb'
   | loop x ih =>
    intro b hb b' hb'
    simp only [loops, List.mem_cons] at hb ⊢
    rcases hb with rfl | hb
    ·exact .inr hb'
    ·exact .inr (ih b hb b' hb')
   | _ => intro b hb; simp [loops] at hb
  exact fun b hb' => key c _ hb b hb'
 intro S hSK x
 generalize hμ : μ x = N
 induction N using Nat.strongRecOn generalizing x with
 | ind N ih =>
  intro hinv k hk a β w hR hS hT' Q hQ
  subst hμ
  obtain ⟨cl, q1, q2, q3⟩ := hS0
  refine inLoop_round ((execS_good hm (SOk.of_cl q1 q2) q1 q2 q3 (laps_ok hls) hSK n).1 _ hC hsub (h x hinv) a β w hR hS hT' _ fun o m' H' hq β' a' w' hR' hS' hT2 hd' => ?_)
  unfold Lap.round at hq
  cases o with
  | norm =>
   simp only at hq
   split at hq
   ·rename_i hn
    obtain ⟨x', ⟨hinv', hlt, hsA, hsB⟩, β1, q1, q2, q3⟩ := view_sound hq hR' hSK hS' hT2
    rw [Nat.eq_of_beq_eq_true hn] at q3
    exact ih (μ x') hlt x' rfl hinv' k ⟨fun y hy => hk.1 y (hsA y hy), fun y hy => hk.2 y (hsB y hy)⟩ a' β1 w' q1 q2 q3 Q (hQ.defers hd')
   ·exact hq.elim
  | exit id =>
   simp only at hq
   split at hq
   ·rename_i hn
    cases e1 : Lap.round.outEq (.exit id) l.oA with
    | true =>
     rw [e1] at hq
     obtain ⟨y, hy, β1, q1, q2, q3⟩ := view_sound hq hR' hSK hS' hT2
     rw [Nat.eq_of_beq_eq_true hn] at q3
     have := hQ l.oA (l.tmA y) (l.A.heap y) (hk.1 y hy) β1 a' w' q1 q2 q3 hd'
     rw [← outEq_eq e1] at this
     exact this
    | false =>
     rw [e1] at hq
     cases e2 : Lap.round.outEq (.exit id) l.oB with
     | true =>
      rw [e2] at hq
      obtain ⟨y, hy, β1, q1, q2, q3⟩ := view_sound hq hR' hSK hS' hT2
      rw [Nat.eq_of_beq_eq_true hn] at q3
      have := hQ l.oB (l.tmB y) (l.B.heap y) (hk.2 y hy) β1 a' w' q1 q2 q3 hd'
      rw [← outEq_eq e2] at this
      exact this
     | false => rw [e2] at hq; exact hq.elim
   ·exact hq.elim
  | ret =>
   simp only at hq
   split at hq
   ·rename_i hn
    cases e1 : Lap.round.outEq .ret l.oA with
    | true =>
     rw [e1] at hq
     obtain ⟨y, hy, β1, q1, q2, q3⟩ := view_sound hq hR' hSK hS' hT2
     rw [Nat.eq_of_beq_eq_true hn] at q3
     have := hQ l.oA (l.tmA y) (l.A.heap y) (hk.1 y hy) β1 a' w' q1 q2 q3 hd'
     rw [← outEq_eq e1] at this
     exact this
    | false =>
     rw [e1] at hq
     cases e2 : Lap.round.outEq .ret l.oB with
     | true =>
      rw [e2] at hq
      obtain ⟨y, hy, β1, q1, q2, q3⟩ := view_sound hq hR' hSK hS' hT2
      rw [Nat.eq_of_beq_eq_true hn] at q3
      have := hQ l.oB (l.tmB y) (l.B.heap y) (hk.2 y hy) β1 a' w' q1 q2 q3 hd'
      rw [← outEq_eq e2] at this
      exact this
     | false => rw [e2] at hq; exact hq.elim
   ·exact hq.elim
def endZ (A : Dom) (v : AV) (H : Heap) (k : AV → Heap → Prop) : Prop := match A.vals with
 | .vec t => freezeS (meltNS (meltS t)) t v H k
 | _ => k v H
theorem endZ_sound {A : Dom} {v : AV} {H : Heap} {k : AV → Heap → Prop} {β : At} {w : World} {c : Value} (h : endZ A v H k) (hR : Rel β H w) (hv : VRel H.n β v c) : ∃ v' H' β', Rel β' H' w ∧ Le β H w β' H' w ∧ VRel H'.n β' v' c ∧ k v' H' := by
 unfold endZ at h
 split at h
 ·rename_i t _
  obtain ⟨v', H', h1, h2⟩ := freezeS_elim (meltNS_elim (meltS_elim t)) h
  obtain ⟨β', hm, hv'⟩ := freezeV_sound (meltN_sound (meltT_sound t)) h1 hR hv
  exact ⟨v', H', β', hm.rel, hm.le, by rw [hm.n]; exact hv', h2⟩
 ·exact ⟨v, H, β, hR, Le.refl _ _ _, hv, h⟩
def endC (K : Nat) (sel : AV → Bool) (A B : Dom) (qa : A.den → Prop) (qb : B.den → Prop) : AV → Heap → Prop := fun v H =>
 match sel v with
 | true => match Nat.ble K A.rows.length with
  | true => endZ A v H fun v H => A.matS [v] H (keepK K) fun y _ => qa y
  | false => False
 | false => match Nat.ble K B.rows.length with
  | true => B.matS [v] H (keepK K) fun y _ => qb y
  | false => False
theorem con_ok {P : Program} (hm : P.follows .mixedOrders = true) {S0 : Handler} (hS0 : HOk P S0) {f : FuncId} {fn : Func} {c : Code} (hf : P.funcs[f]? = some fn) (hb : fn.body = some c) (hC : codeOk P c = true) {C : Con} {ls : List Lap} (hls : ∀ l, l ∈ ls → LapOk P C.D.rows.length c l ∧ oneLoop c l.id = true) (n : Nat) (sel : AV → Bool)
  (hA : ∀ y, (C.A.args y).length = 1) (hB : (∀ y, (C.B.args y).length = 1) ∨ ∀ x y, C.pre x → C.spec x ≠ .inr y)
  (h : ∀ x, C.pre x → bodyS P S0 S0 (lapsL C.D.rows.length ls) n fn c (C.D.args x) (C.D.heap x) (endC C.D.rows.length sel C.A C.B (fun y => C.spec x = .inl y) (fun y => C.spec x = .inr y))) : ConOk P f C := by
 intro x hx β w cargs hR ha
 have hLn : (C.D.heap x).n = C.D.rows.length := C.D.heap_n x
 have hL : LInOk P (C.D.heap x).n (loops c) (lapsL C.D.rows.length ls) := by rw [hLn]; exact laps_ok hls
 obtain ⟨cl, q1, q2, q3⟩ := hS0
 refine (bodyS_good hm (SOk.of_cl q1 q2) q1 q2 q3 hf hb hC hL (h x hx) β w cargs hR ha).mono ?_
 rintro e w' ⟨v, H', hk, β', c', rfl, hR', hLe, hv⟩
 have hone : ∀ (D : Dom) (y : D.den), (D.args y).length = 1 → D.args y = [D.one y] := by
  intro D y hy
  unfold Dom.one
  cases h : D.args y with
  | nil => rw [h] at hy; simp at hy
  | cons v l =>
   rw [h] at hy
   have : l = [] := List.length_eq_zero_iff.1 (by simpa using hy)
   subst this
   rfl
 unfold endC at hk
 split at hk
 ·split at hk
  ·rename_i hK
   obtain ⟨v, H', β', hR', hLe2, hv, hk⟩ := endZ_sound hk hR' hv
   have hLe := hLe.trans hLe2
   obtain ⟨y, ρ, hmat, hq⟩ := Dom.matS_elim hk
   obtain ⟨β1, q1, q2, q3⟩ := recast hR' hmat (Nat.le_of_ble_eq_true hK) (.one hv) (S := ⟨β, C.D.heap x, w, hR.fresh⟩) hLn hLe
   have hval : C.val x = C.A.one y := by unfold Con.val; rw [hq]
   have hheap : C.heap x = C.A.heap y := by unfold Con.heap; rw [hq]
   rw [hone C.A y (hA y)] at q3
   refine ⟨β1, c', rfl, by rw [hheap]; exact q1, by rw [hheap]; exact q2, ?_⟩
   rw [hheap, hval]
   cases q3 with
   | cons _ _ _ _ h1 _ => exact h1
  ·exact hk.elim
 ·split at hk
  ·rename_i hK
   obtain ⟨y, ρ, hmat, hq⟩ := Dom.matS_elim hk
   obtain ⟨β1, q1, q2, q3⟩ := recast hR' hmat (Nat.le_of_ble_eq_true hK) (.one hv) (S := ⟨β, C.D.heap x, w, hR.fresh⟩) hLn hLe
   have hval : C.val x = C.B.one y := by unfold Con.val; rw [hq]
   have hheap : C.heap x = C.B.heap y := by unfold Con.heap; rw [hq]
   have hB1 : (C.B.args y).length = 1 := by
    rcases hB with h | h
    ·exact h y
    ·exact absurd hq (h x y hx)
   rw [hone C.B y hB1] at q3
   refine ⟨β1, c', rfl, by rw [hheap]; exact q1, by rw [hheap]; exact q2, ?_⟩
   rw [hheap, hval]
   cases q3 with
   | cons _ _ _ _ h1 _ => exact h1
  ·exact hk.elim
end Go.Vx
end
section
set_option linter.unusedVariables false
set_option linter.unusedSimpArgs false
namespace Go.Vx
section book
variable (P : Program) (T : Book)
noncomputable def clB : Nat → Caller
 | 0 => T.cl
 | n + 1 => fun f args H => match T f args H with
  | some _ => T.cl f args H
  | none => match P.funcs[f]? with
   | some fn => match fn.body with
    | some c => bodyA P (clB n) 60 fn c args H
    | none => none
   | none => none
def bookS : Nat → Handler
 | 0 => T.S
 | n + 1 => fun f args H k => match T f args H with
  | some _ => T.S f args H k
  | none => match P.funcs[f]? with
   | some fn => match fn.body with
    | some c => match codePl P c with
     | true => bodyS P (bookS n) (bookS n) (fun _ _ _ _ => none) 60 fn c args H k
     | false => False
    | none => False
   | none => False
end book
section sound
variable {P : Program} {T : Book}
theorem clB_sound (hm : P.follows .mixedOrders = true) (hT : BookOk P T) : ∀ n, CallOk P (clB P T n)
 | 0 => T.callOk hT
 | n + 1 => fun f args H v H' h => by
  simp only [clB] at h
  split at h
  ·exact T.callOk hT f args H v H' h
  ·split at h
   ·rename_i fn hf
    split at h
    ·rename_i c hb
     exact fun β w cargs hR ha => body_sound hm (clB_sound hm hT n) hf hb h hR ha
    ·cases h
   ·cases h
theorem clB_later : ∀ n, ClLater (clB P T n)
 | 0 => T.later
 | n + 1 => fun f args H v H' h => by
  simp only [clB] at h
  split at h
  ·exact T.later f args H v H' h
  ·split at h
   ·split at h
    ·unfold bodyA at h
     split at h
     ·split at h
      ·rename_i m H1 he
       obtain ⟨_, _, he2⟩ := map_some h
       simp only [Prod.mk.injEq] at he2
       rw [← he2.2]
       exact execA_later (clB_later n) 60 _ he
      ·rename_i m H1 he
       obtain ⟨_, _, he2⟩ := map_some h
       simp only [Prod.mk.injEq] at he2
       rw [← he2.2]
       exact execA_later (clB_later n) 60 _ he
      ·cases h
     ·cases h
    ·cases h
   ·cases h
theorem bookS_run : ∀ n, ClS (bookS P T n) (clB P T n)
 | 0 => T.cls
 | n + 1 => fun f args H k h => by
  simp only [bookS] at h
  simp only [clB]
  split at h
  ·rename_i C hC
   exact T.cls f args H k h
  ·split at h
   ·rename_i fn hf
    split at h
    ·rename_i c hc
     split at h
     ·rename_i hpl
      unfold bodyS at h
      split at h
      ·exact h.elim
      ·rename_i hl
       obtain ⟨o, m, H', he, h⟩ := execS_run (bookS_run n) (clB_later n) 60 c hpl h
       have hle : args.length ≤ fn.ntmps := Nat.le_of_ble_eq_true hl
       cases o with
       | norm =>
        obtain ⟨l, hr, hk⟩ := must_elim h
        exact ⟨_, _, by simp only [bodyA, if_pos hle, he, hr, Option.map_some], hk⟩
       | ret =>
        obtain ⟨l, hr, hk⟩ := must_elim h
        exact ⟨_, _, by simp only [bodyA, if_pos hle, he, hr, Option.map_some], hk⟩
       | exit id => exact h.elim
     ·exact h.elim
    ·exact h.elim
   ·exact h.elim
theorem bookS_ok (hm : P.follows .mixedOrders = true) (hT : BookOk P T) (n : Nat) : HOk P (bookS P T n) := ⟨clB P T n, bookS_run n, clB_sound hm hT n, clB_later n⟩
end sound
noncomputable def fnOf (P : Program) (f : Nat) : Func := (P.funcs[f]?).getD default
noncomputable def codeOf (P : Program) (f : Nat) : Code := match (fnOf P f).body with
 | some c => c
 | none => .skip
def isFn (P : Program) (f : Nat) : Bool := match P.funcs[f]? with
 | some fn => fn.body.isSome
 | none => false
theorem isFn_spec {P : Program} {f : Nat} (h : isFn P f = true) : P.funcs[f]? = some (fnOf P f) ∧ (fnOf P f).body = some (codeOf P f) := by
 unfold isFn at h
 unfold codeOf
 split at h
 ·rename_i fn hf
  have e : fnOf P f = fn := by unfold fnOf; rw [hf]; rfl
  rw [e]
  refine ⟨hf, ?_⟩
  cases hb : fn.body with
  | none => rw [hb] at h; cases h
  | some c => rfl
 ·cases h
theorem codeOk_of {P : Program} (hP : progOk P = true) {f : Nat} (h : isFn P f = true) : codeOk P (codeOf P f) = true := fn_ok hP (isFn_spec h).1 (isFn_spec h).2
theorem codeOk_loops {P : Program} : ∀ {c b : Code}, codeOk P c = true → b ∈ loops c → codeOk P b = true := by
 intro c
 induction c with
 | seq x y ihx ihy =>
  intro b hc hb
  simp only [codeOk, Bool.and_eq_true] at hc
  simp only [loops, List.mem_append] at hb
  rcases hb with hb | hb
  ·exact ihx hc.1 hb
  ·exact ihy hc.2 hb
 | cond q x y ihx ihy =>
  intro b hc hb
  simp only [codeOk, Bool.and_eq_true] at hc
  simp only [loops, List.mem_append] at hb
  rcases hb with hb | hb
  ·exact ihx hc.1 hb
  ·exact ihy hc.2 hb
 | block id x ih => intro b hc hb; exact ih (by simpa only [codeOk] using hc) hb
 | loop x ih =>
  intro b hc hb
  have hc : codeOk P x = true := by simpa only [codeOk] using hc
  simp only [loops, List.mem_cons] at hb
  rcases hb with rfl | hb
  ·exact hc
  ·exact ih hc hb
 | _ => intro b hc hb; simp [loops] at hb
def Con.run (P : Program) (T : Book) (d : Nat) (ls : List Lap) (f : Nat) (C : Con) (sel : AV → Bool) (x : C.D.den) (qa : C.A.den → Prop) (qb : C.B.den → Prop) : Prop :=
 bodyS P (bookS P T d) (bookS P T d) (lapsL C.D.rows.length ls) 100 (fnOf P f) (codeOf P f) (C.D.args x) (C.D.heap x) (endC C.D.rows.length sel C.A C.B qa qb)
def Lap.run (P : Program) (T : Book) (d K : Nat) (ls : List Lap) (f : Nat) (l : Lap) (x : l.D.den) (again : l.D.den → Prop) (qa : l.A.den → Prop) (qb : l.B.den → Prop) : Prop :=
 execS P (bookS P T d) (bookS P T d) (lapsL K ls) 100 (loopAt (codeOf P f) l.id) (l.tm x) (l.D.heap x) (l.round K again qa qb)
def LapsOk (P : Program) (K f : Nat) (ls : List Lap) : Prop := ∀ l, l ∈ ls → LapOk P K (codeOf P f) l ∧ oneLoop (codeOf P f) l.id = true
theorem LapsOk.nil {P : Program} {K f : Nat} : LapsOk P K f [] := fun l h => by simp at h
theorem LapsOk.cons {P : Program} {K f : Nat} {l : Lap} {ls : List Lap} (h : LapOk P K (codeOf P f) l) (h1 : oneLoop (codeOf P f) l.id = true) (hs : LapsOk P K f ls) : LapsOk P K f (l :: ls) := fun l' hl => by
 rcases List.mem_cons.1 hl with rfl | hl
 ·exact ⟨h, h1⟩
 ·exact hs l' hl
theorem Con.proved {P : Program} (hm : P.follows .mixedOrders = true) (hP : progOk P = true) {T : Book} (hT : BookOk P T) {f : Nat} {C : Con} (hf : isFn P f = true) {ls : List Lap} (hls : LapsOk P C.D.rows.length f ls) (d : Nat) (sel : AV → Bool)
  (hA : ∀ y, (C.A.args y).length = 1) (hB : (∀ y, (C.B.args y).length = 1) ∨ ∀ x y, C.pre x → C.spec x ≠ .inr y)
  (h : ∀ x, C.pre x → C.run P T d ls f sel x (fun y => C.spec x = .inl y) (fun y => C.spec x = .inr y)) : ConOk P f C :=
 con_ok hm (bookS_ok hm hT d) (isFn_spec hf).1 (isFn_spec hf).2 (codeOk_of hP hf) hls 100 sel hA hB h
theorem Lap.proved {P : Program} (hm : P.follows .mixedOrders = true) (hP : progOk P = true) {T : Book} (hT : BookOk P T) {K f : Nat} {l : Lap} (hf : isFn P f = true) (h1 : oneLoop (codeOf P f) l.id = true) {ls : List Lap} (hls : LapsOk P K f ls) (d : Nat) (μ : l.D.den → Nat)
  (h : ∀ x, l.inv x → l.run P T d K ls f x (fun x' => l.inv x' ∧ μ x' < μ x ∧ (∀ y, l.relA x' y → l.relA x y) ∧ ∀ y, l.relB x' y → l.relB x y) (l.relA x) (l.relB x)) : LapOk P K (codeOf P f) l := by
 refine lap_ok hm (bookS_ok hm hT d) hls h1 ?_ 100 μ h
 have : loopAt (codeOf P f) l.id ∈ loopsOf (codeOf P f) l.id := by rw [oneLoop_spec h1]; simp
 exact codeOk_loops (codeOk_of hP hf) (List.mem_filter.1 this).1
def Book.none : Book := fun _ _ _ => .none
theorem BookOk.none (P : Program) : BookOk P Book.none := fun f args H C h => by cases h
def Book.add (T : Book) (f : FuncId) (C : Con) : Book := fun g args H => match Nat.beq g f with
 | true => some C
 | false => T g args H
theorem BookOk.add {P : Program} {T : Book} (hT : BookOk P T) {f : FuncId} {C : Con} (h : ConOk P f C) : BookOk P (T.add f C) := fun g args H C' hC => by
 unfold Book.add at hC
 split at hC
 ·rename_i e; cases hC; rw [Nat.eq_of_beq_eq_true e]; exact h
 ·exact hT g args H C' hC
end Go.Vx
end
section
set_option linter.unusedVariables false
set_option linter.unusedSimpArgs false
namespace Go.Vx
open Go.ChangeShapes Go.WideShapes
def wfT : (t : Ty) → t.den → Prop
 | .bool, _ => True
 | .int k, n => (Lit.int k n).wf = true
 | .byte, _ => True
 | .str, s => s.length ≤ 140737488351232
 | .sl t, l => l.length ≤ maxLen ∧ ∀ x, x ∈ l → wfT t x
 | .unit, _ => True
 | .pair a b, x => wfT a x.1 ∧ wfT b x.2
def wfV : (p : VP) → p.den → Prop
 | .int k, n => (Lit.int k n).wf = true
 | .str, s => s.length ≤ 140737488351232
 | .vec t, l => l.length ≤ maxLen ∧ ∀ x, x ∈ l → wfT t x
 | .cat a b, x => wfV a x.1 ∧ wfV b x.2
 | .agg l, x => wfV l x
 | .tup l, x => wfV l x
 | _, _ => True
def tyIn (P : Program) : Ty → (TypeId ⊕ (Nat × List Field)) → Bool
 | .bool, .inl t => match P.underlying t with
  | some .bool => true
  | _ => false
 | .int k, .inl t => match P.underlying t with
  | some (.int q) => decide (k = q)
  | _ => false
 | .byte, .inl t => match P.underlying t with
  | some (.int q) => decide (q = .u8)
  | _ => false
 | .str, .inl t => match P.underlying t with
  | some .string => true
  | _ => false
 | .sl T, .inl t => match P.underlying t with
  | some (.slice e) => decide (P.cellsOf e = T.z) && (decide (0 < T.z) && tyIn P T (.inl e))
  | _ => false
 | .unit, .inr (_, []) => true
 | .bool, .inr (off, [f]) => decide (f.offset = off) && (decide (P.cellsOf f.type = 1) && (match P.underlying f.type with
  | some .bool => true
  | _ => false))
 | .int k, .inr (off, [f]) => decide (f.offset = off) && (decide (P.cellsOf f.type = 1) && (match P.underlying f.type with
  | some (.int q) => decide (k = q)
  | _ => false))
 | .byte, .inr (off, [f]) => decide (f.offset = off) && (decide (P.cellsOf f.type = 1) && (match P.underlying f.type with
  | some (.int q) => decide (q = .u8)
  | _ => false))
 | .str, .inr (off, [f]) => decide (f.offset = off) && (decide (P.cellsOf f.type = 1) && (match P.underlying f.type with
  | some .string => true
  | _ => false))
 | .sl T, .inr (off, [f]) => decide (f.offset = off) && (decide (P.cellsOf f.type = 1) && (match P.underlying f.type with
  | some (.slice e) => decide (P.cellsOf e = T.z) && (decide (0 < T.z) && tyIn P T (.inl e))
  | _ => false))
 | .pair a b, .inl t => match P.underlying t with
  | some (.struct fs) => match fs.toList with
   | f :: fs => decide (P.cellsOf t = a.z + b.z) && (decide (f.offset = 0) && (decide (P.cellsOf f.type = a.z) && (tyIn P a (.inl f.type) && tyIn P b (.inr (a.z, fs)))))
   | [] => false
  | _ => false
 | .pair a b, .inr (off, f :: fs) => decide (f.offset = off) && (decide (P.cellsOf f.type = a.z) && (tyIn P a (.inl f.type) && tyIn P b (.inr (off + a.z, fs))))
 | _, _ => false
theorem list_of {α : Type} {p : Nat → α → Prop} : ∀ n : Nat, (∀ i, i < n → ∃ x, p i x) → ∃ l : List α, l.length = n ∧ ∀ i x, l[i]? = some x → p i x
 | 0, _ => ⟨[], rfl, fun i x h => by simp at h⟩
 | n + 1, h => by
  obtain ⟨l, hl, hp⟩ := list_of n fun i hi => h i (by omega)
  obtain ⟨x, hx⟩ := h n (by omega)
  refine ⟨l ++ [x], by simp [hl], fun i y hy => ?_⟩
  by_cases hi : i < n
  ·exact hp i y (by rwa [List.getElem?_append_left (by omega)] at hy)
  ·rw [List.getElem?_append_right (by omega), hl] at hy
   have : i = n := by
    have := (List.getElem?_eq_some_iff.1 hy).1
    simp at this; omega
   subst this
   simp at hy
   subst hy
   exact hx
theorem cells_at {w : World} {base : Nat} {a : Addr} {n : Nat} {cs : List Value} (h : w.cells? base a n = some cs) : cs.length = n ∧ ∀ i c, cs[i]? = some c → w.cell? ⟨a.block, a.off + i, none⟩ = some c := by
 unfold World.cells? at h
 split at h
 ·refine ⟨by simpa using mapM_some_length h, fun i c hc => ?_⟩
  have hi : i < n := by
   have := mapM_some_length h
   simp at this
   have := (List.getElem?_eq_some_iff.1 hc).1
   omega
  have := mapM_some_get h i i (by simp [hi])
  rw [hc] at this
  unfold Addr.add at this
  split at this
  ·rename_i e; subst e
   unfold World.cell? at this ⊢
   split at this
   ·split at this
    ·cases this
    ·rename_i h1 h2; simp only [h1]; simpa using this
   ·cases this
  ·exact this
 ·cases h
def Sees (β : At) (w : World) : Prop := ∀ b o c, w.cell? ⟨b, o, none⟩ = some c → β.imm b o = some c
section reads
variable {H : Type} {en : TypeId × Value → H} {P : Program} {w : World} {base : Nat} {sp : Nat → Bool} {hd : Bool}
theorem take_add_drop {α : Type} (cs : List α) (o x y : Nat) : (cs.drop o).take x ++ (cs.drop (o + x)).take y = (cs.drop o).take (x + y) := by
 rw [← List.drop_drop, List.take_add]
def LastT (P : Program) (T : Ty) : Prop := ∀ off fs, tyIn P T (.inr (off, fs)) = true → ∃ f, fs = [f] ∧ f.offset = off ∧ P.cellsOf f.type = T.z ∧ tyIn P T (.inl f.type) = true
def Light (P : Program) (t : TypeId) (d : DataW H) : Prop := ∀ n, n ∈ d.weights P t → n ≤ reachBytes
theorem mem_all {P : Program} {e : TypeId} {n : Nat} : ∀ {l : List (DataW H)} {i : Nat} {d : DataW H}, l[i]? = some d → n ∈ d.weights P e → n ∈ DataW.weightsAll P e l
 | x :: l, 0, d, h, hn => by cases h; unfold DataW.weightsAll; exact List.mem_append_left _ hn
 | x :: l, i + 1, d, h, hn => by unfold DataW.weightsAll; exact List.mem_append_right _ (mem_all (i := i) (by simpa using h) hn)
 | [], _, _, h, _ => by simp at h
theorem mem_each {P : Program} {n : Nat} : ∀ {ts : List TypeId} {l : List (DataW H)} {i : Nat} {t : TypeId} {d : DataW H}, ts[i]? = some t → l[i]? = some d → n ∈ d.weights P t → n ∈ DataW.weightsEach P ts l
 | t :: ts, x :: l, 0, _, d, ht, h, hn => by cases h; cases ht; unfold DataW.weightsEach; exact List.mem_append_left _ hn
 | t :: ts, x :: l, i + 1, _, d, ht, h, hn => by unfold DataW.weightsEach; exact List.mem_append_right _ (mem_each (i := i) (by simpa using ht) (by simpa using h) hn)
 | [], _, _, _, _, ht, _, _ => by simp at ht
 | _ :: _, [], _, _, _, _, h, _ => by simp at h
theorem weigh_drop {P : Program} {p : Nat → Bool} : ∀ {ts us : List TypeId} {ds : List (DataW H)}, ds.length = ts.length → (DataW.weightsEach P (ts ++ us) (ds ++ [])).all p = true → (DataW.weightsEach P ts ds).all p = true
 | t :: ts, us, d :: ds, hl, h => by
  rw [List.cons_append, List.cons_append] at h
  unfold DataW.weightsEach at h ⊢
  rw [List.all_append, Bool.and_eq_true] at h ⊢
  exact ⟨h.1, weigh_drop (by simpa using hl) h.2⟩
 | [], _, [], _, _ => by simp [DataW.weightsEach]
 | [], _, _ :: _, hl, _ => by simp at hl
 | _ :: _, _, [], hl, _ => by simp at hl
theorem last_bool : LastT P .bool := fun off fs h => by
 match fs, h with
 | [], h => simp [tyIn] at h
 | [f], h =>
  simp only [tyIn, Bool.and_eq_true, decide_eq_true_eq] at h
  exact ⟨f, rfl, h.1, h.2.1, h.2.2⟩
 | _ :: _ :: _, h => simp [tyIn] at h
theorem last_int {k : IntKind} : LastT P (.int k) := fun off fs h => by
 match fs, h with
 | [], h => simp [tyIn] at h
 | [f], h =>
  simp only [tyIn, Bool.and_eq_true, decide_eq_true_eq] at h
  exact ⟨f, rfl, h.1, h.2.1, h.2.2⟩
 | _ :: _ :: _, h => simp [tyIn] at h
theorem last_byte : LastT P .byte := fun off fs h => by
 match fs, h with
 | [], h => simp [tyIn] at h
 | [f], h =>
  simp only [tyIn, Bool.and_eq_true, decide_eq_true_eq] at h
  exact ⟨f, rfl, h.1, h.2.1, h.2.2⟩
 | _ :: _ :: _, h => simp [tyIn] at h
theorem last_str : LastT P .str := fun off fs h => by
 match fs, h with
 | [], h => simp [tyIn] at h
 | [f], h =>
  simp only [tyIn, Bool.and_eq_true, decide_eq_true_eq] at h
  exact ⟨f, rfl, h.1, h.2.1, h.2.2⟩
 | _ :: _ :: _, h => simp [tyIn] at h
theorem last_sl {S : Ty} : LastT P (.sl S) := fun off fs h => by
 match fs, h with
 | [], h => simp [tyIn] at h
 | [f], h =>
  simp only [tyIn, Bool.and_eq_true, decide_eq_true_eq] at h
  exact ⟨f, rfl, h.1, h.2.1, h.2.2⟩
 | _ :: _ :: _, h => simp [tyIn] at h
theorem with_last {T : Ty} (hT : LastT P T) (h1 : ∀ (t : TypeId) (cs : List Value) (fuel : Nat) (x : DataW H × List MemPlace), tyIn P T (.inl t) = true → DataW.trod en P w base sp hd fuel t cs = some x → Light P t x.1 →
   ∃ d : T.den, wfT T d ∧ ∀ N β, Sees β w → VsRel N β (enc T d) cs) : (∀ (t : TypeId) (cs : List Value) (fuel : Nat) (x : DataW H × List MemPlace), tyIn P T (.inl t) = true → DataW.trod en P w base sp hd fuel t cs = some x → Light P t x.1 →
   ∃ d : T.den, wfT T d ∧ ∀ N β, Sees β w → VsRel N β (enc T d) cs) ∧
  (∀ (off : Nat) (fs : List Field) (cs : List Value) (n : Nat), tyIn P T (.inr (off, fs)) = true →
   (∀ f, f ∈ fs → ∃ x, DataW.trod en P w base sp hd n f.type ((cs.drop f.offset).take (P.cellsOf f.type)) = some x ∧ Light P f.type x.1) →
   ∃ d : T.den, wfT T d ∧ ∀ N β, Sees β w → VsRel N β (enc T d) ((cs.drop off).take T.z)) := ⟨h1, fun off fs cs n ht hf => by
 obtain ⟨f, rfl, ho, hz, ht⟩ := hT off fs ht
 obtain ⟨x, h, hw⟩ := hf f (by simp)
 obtain ⟨d, hd, hr⟩ := h1 f.type _ n x ht h hw
 exact ⟨d, hd, fun N β hs => by have := hr N β hs; rwa [ho, hz] at this⟩⟩
theorem read_ty : (T : Ty) →
  (∀ (t : TypeId) (cs : List Value) (fuel : Nat) (x : DataW H × List MemPlace), tyIn P T (.inl t) = true → DataW.trod en P w base sp hd fuel t cs = some x → Light P t x.1 →
   ∃ d : T.den, wfT T d ∧ ∀ N β, Sees β w → VsRel N β (enc T d) cs) ∧
  (∀ (off : Nat) (fs : List Field) (cs : List Value) (n : Nat), tyIn P T (.inr (off, fs)) = true →
   (∀ f, f ∈ fs → ∃ x, DataW.trod en P w base sp hd n f.type ((cs.drop f.offset).take (P.cellsOf f.type)) = some x ∧ Light P f.type x.1) →
   ∃ d : T.den, wfT T d ∧ ∀ N β, Sees β w → VsRel N β (enc T d) ((cs.drop off).take T.z))
 | .bool => with_last last_bool fun t cs fuel x ht h hlt => by
   simp only [tyIn] at ht
   split at ht
   ·rename_i hu
    obtain ⟨b, rfl, _⟩ := DataW.trod_bool hu h
    exact ⟨b, trivial, fun N β _ => .one (.bool _ _)⟩
   ·exact (Bool.false_ne_true ht).elim
 | .int k => with_last last_int fun t cs fuel x ht h hlt => by
   simp only [tyIn] at ht
   split at ht
   ·rename_i q hu
    have hq := of_decide_eq_true ht
    subst hq
    obtain ⟨n, rfl, _, hw⟩ := DataW.trod_int hu h
    exact ⟨n, hw, fun N β _ => .one (.int _ _ _)⟩
   ·exact (Bool.false_ne_true ht).elim
 | .byte => with_last last_byte fun t cs fuel x ht h hlt => by
   simp only [tyIn] at ht
   split at ht
   ·rename_i q hu
    have hq := of_decide_eq_true ht
    subst hq
    obtain ⟨n, rfl, _, hw⟩ := DataW.trod_int hu h
    simp only [Lit.wf, Bool.and_eq_true, decide_eq_true_eq, IntKind.min, IntKind.max, IntKind.signed, IntKind.bits] at hw
    have h0 : 0 ≤ n := by simpa using hw.1
    have h1 : n < 256 := by have := hw.2; simp at this; omega
    refine ⟨UInt8.ofNat n.toNat, trivial, fun N β _ => ?_⟩
    have : n = ((UInt8.ofNat n.toNat).toNat : Int) := by simp [UInt8.toNat_ofNat']; omega
    conv => rhs; rw [this]
    exact .one (.int _ _ _)
   ·exact (Bool.false_ne_true ht).elim
 | .str => with_last last_str fun t cs fuel x ht h hlt => by
   simp only [tyIn] at ht
   split at ht
   ·rename_i hu
    obtain ⟨s, rfl, rfl, hw⟩ := DataW.trod_string hu h
    exact ⟨s.data.toList, hlt _ (by simp [DataW.weights]), fun N β _ => .one (.str _ _ _ rfl)⟩
   ·exact (Bool.false_ne_true ht).elim
 | .sl T => with_last last_sl fun t cs fuel x ht h hlt => by
   simp only [tyIn] at ht
   split at ht
   ·rename_i e hu
    simp only [Bool.and_eq_true, decide_eq_true_eq] at ht
    obtain ⟨hz, hz0, ht⟩ := ht
    rcases DataW.trod_slice hu h with ⟨rfl, _⟩ | ⟨a, len, cap, elems, rest, n, _, rfl, hx, _, hl, hc, hlen, hel, _, _⟩
    ·refine ⟨[], ⟨by simp, fun x hx => by simp at hx⟩, fun N β _ => .one ?_⟩
     exact .vec T [] 0 none 0 0 (fun _ => .nilIface) (by simp) ⟨fun h => by simp at h, fun _ => rfl⟩ (fun k v h => by simp [encL] at h) (fun k v h => by simp [encL] at h)
    ·have hex : ∀ i, i < len → ∃ d : T.den, ∃ cs, w.cells? base (a.add (i * T.z)) T.z = some cs ∧ wfT T d ∧ ∀ N β, Sees β w → VsRel N β (enc T d) cs := fun i hi => by
      have h1 := hel i hi
      rw [hz, List.getElem?_eq_getElem (by omega)] at h1
      simp only [Option.bind_eq_some_iff] at h1
      obtain ⟨cs, hcs, h1⟩ := h1
      obtain ⟨d, hd1, hd2⟩ := (read_ty T).1 e cs n _ ht h1 fun m hm => hlt m (by
       rw [hx]
       unfold DataW.weights
       rw [hu]
       exact List.mem_cons_of_mem _ (List.mem_append_left _ (mem_all (i := i) (by rw [List.getElem?_map, List.getElem?_eq_getElem (by omega)]; rfl) hm)))
      exact ⟨d, cs, hcs, hd1, hd2⟩
     obtain ⟨l, hll, hl'⟩ := list_of len hex
     subst hll
     refine ⟨l, ⟨by omega, fun x hx => ?_⟩, fun N β hs => .one ?_⟩
     ·obtain ⟨i, hi⟩ := List.getElem?_of_mem hx
      obtain ⟨_, _, h, _⟩ := hl' i x hi
      exact h
     ·have key : ∀ k v, (encL T l)[k]? = some v → ∃ c, w.cell? ⟨a.block, a.off + k, none⟩ = some c ∧ VRel N β v c ∧ (k = 0 → a.spot = none) := fun k v hk => by
       have hkl := (List.getElem?_eq_some_iff.1 hk).1
       rw [encL_length] at hkl
       have hi : k / T.z < l.length := Nat.div_lt_of_lt_mul (by rwa [Nat.mul_comm])
       have ho : k % T.z < T.z := Nat.mod_lt _ hz0
       have hk' : k / T.z * T.z + k % T.z = k := by rw [Nat.mul_comm]; exact Nat.div_add_mod _ _
       rw [← hk', encL_get T l _ _ hi ho] at hk
       obtain ⟨cs, hcs, _, hr⟩ := hl' (k / T.z) (l.getD (k / T.z) T.dflt) (by rw [List.getD_eq_getElem?_getD, List.getElem?_eq_getElem hi]; rfl)
       obtain ⟨c, hc, hrel⟩ := (hr N β hs).at _ _ hk
       have hcell := (cells_at hcs).2 _ _ hc
       refine ⟨c, ?_, hrel, fun h0 => ?_⟩
       ·rw [← hk']
        unfold Addr.add at hcell
        split at hcell
        ·rename_i e; rw [e, Nat.zero_add]; exact hcell
        ·rw [← Nat.add_assoc]; exact hcell
       ·subst h0
        have hd0 : (0 : Nat) / T.z = 0 := Nat.zero_div _
        rw [hd0, Nat.zero_mul] at hcs
        unfold World.cells? at hcs
        split at hcs
        ·have h0 := mapM_some_get hcs 0 0 (List.getElem?_range hz0)
         have hl0 := mapM_some_length hcs
         simp at hl0
         rw [List.getElem?_eq_getElem (by omega)] at h0
         simp only [Addr.add, if_true] at h0
         unfold World.cell? at h0
         split at h0
         ·split at h0
          ·cases h0
          ·rename_i h2; simpa using h2
         ·cases h0
        ·cases hcs
      refine .vec T l cap (some a) a.block a.off (fun k => (w.cell? ⟨a.block, a.off + k, none⟩).getD .nilIface) hl ⟨fun h0 => ?_, fun h => by cases h⟩ (fun k v hk => ?_) (fun k v hk => ?_)
      ·have : 0 < (encL T l).length := by rw [encL_length]; exact Nat.mul_pos h0 hz0
       obtain ⟨c, _, _, hsp⟩ := key 0 _ (List.getElem?_eq_getElem this)
       have := hsp rfl
       cases a; simp_all
      ·obtain ⟨c, hc, _, _⟩ := key k v hk
       simp only [hc, Option.getD_some]
       exact hs _ _ _ hc
      ·obtain ⟨c, hc, hr, _⟩ := key k v hk
       simp only [hc, Option.getD_some]
       exact hr
   ·exact (Bool.false_ne_true ht).elim
 | .unit => ⟨fun t cs fuel x ht h _ => by simp [tyIn] at ht, fun off fs cs n ht hf => ⟨(), trivial, fun N β _ => by simpa [Ty.z, enc] using VsRel.nil⟩⟩
 | .pair a b => ⟨fun t cs fuel x ht h hlt => by
   simp only [tyIn] at ht
   split at ht
   ·rename_i fs hu
    split at ht
    ·rename_i f fs' hfs
     simp only [Bool.and_eq_true, decide_eq_true_eq] at ht
     obtain ⟨hz, ho, hfz, ha, hb⟩ := ht
     obtain ⟨xs, n, _, hx, hl, hlen, hf⟩ := DataW.trod_struct hu h
     have hall : ∀ g, g ∈ fs.toList → ∃ x, DataW.trod en P w base sp hd n g.type ((cs.drop g.offset).take (P.cellsOf g.type)) = some x ∧ Light P g.type x.1 := fun g hg => by
      obtain ⟨i, hi⟩ := List.getElem?_of_mem hg
      have hi' : fs[i]? = some g := by simpa using hi
      have := hf i g hi'
      have hlt' : i < xs.length := by
       have := (Array.getElem?_eq_some_iff.1 hi').1
       omega
      rw [List.getElem?_eq_getElem hlt'] at this
      refine ⟨_, this, fun m hm => hlt m ?_⟩
      rw [hx]
      unfold DataW.weights
      rw [hu]
      exact mem_each (i := i) (by rw [List.getElem?_map, hi]; rfl) (by rw [List.getElem?_map, List.getElem?_eq_getElem hlt']; rfl) hm
     obtain ⟨x0, h0, h0w⟩ := hall f (by rw [hfs]; simp)
     obtain ⟨d, hd1, hd2⟩ := (read_ty a).1 f.type _ _ _ ha h0 h0w
     obtain ⟨d', hd3, hd4⟩ := (read_ty b).2 a.z fs' cs n hb fun g hg => hall g (by rw [hfs]; simp [hg])
     refine ⟨(d, d'), ⟨hd1, hd3⟩, fun N β hs => ?_⟩
     have := (hd2 N β hs).append (hd4 N β hs)
     rw [ho, hfz] at this
     have e := take_add_drop cs 0 a.z b.z
     rw [Nat.zero_add] at e
     rw [e, List.drop_zero, List.take_of_length_le (by omega)] at this
     exact this
    ·cases ht
   ·exact (Bool.false_ne_true ht).elim, fun off fs cs n ht hf => by
   match fs, ht, hf with
   | f :: fs, ht, hf =>
    simp only [tyIn, Bool.and_eq_true, decide_eq_true_eq] at ht
    obtain ⟨ho, hfz, ha, hb⟩ := ht
    obtain ⟨x0, h0, h0w⟩ := hf f (by simp)
    obtain ⟨d, hd1, hd2⟩ := (read_ty a).1 f.type _ _ _ ha h0 h0w
    obtain ⟨d', hd3, hd4⟩ := (read_ty b).2 (off + a.z) fs cs n hb fun g hg => hf g (by simp [hg])
    refine ⟨(d, d'), ⟨hd1, hd3⟩, fun N β hs => ?_⟩
    have := (hd2 N β hs).append (hd4 N β hs)
    rw [ho, hfz, take_add_drop] at this
    exact this
   | [], ht, hf => simp [tyIn] at ht⟩
def tyVP : Ty → VP
 | .bool => .bool
 | .int k => .int k
 | .byte => .byte
 | .str => .str
 | .sl t => .vec t
 | .unit => .nil
 | .pair a b => .cat (tyVP a) (tyVP b)
theorem tyVP_of : (T : Ty) → (d : T.den) → wfT T d → ∃ x : (tyVP T).den, wfV (tyVP T) x ∧ ∀ len, encV (tyVP T) x len = enc T d
 | .bool, d, _ => ⟨d, trivial, fun _ => rfl⟩
 | .int k, d, h => ⟨d, h, fun _ => rfl⟩
 | .byte, d, _ => ⟨d, trivial, fun _ => rfl⟩
 | .str, d, h => ⟨d, h, fun _ => rfl⟩
 | .sl t, d, h => ⟨d, h, fun _ => rfl⟩
 | .unit, d, _ => ⟨(), trivial, fun _ => rfl⟩
 | .pair a b, d, h => by
  obtain ⟨x, hx, ex⟩ := tyVP_of a d.1 h.1
  obtain ⟨y, hy, ey⟩ := tyVP_of b d.2 h.2
  exact ⟨(x, y), ⟨hx, hy⟩, fun len => by simp only [tyVP, encV, enc, ex, ey]⟩
def argVP : Ty → VP
 | .pair a b => .agg (tyVP (.pair a b))
 | T => tyVP T
def parV : List Ty → VP
 | [] => .nil
 | [T] => argVP T
 | T :: Ts => .cat (argVP T) (parV Ts)
theorem read_arg {r : Reach} {b0 : Nat} {T : Ty} {t : TypeId} {v : Value} {d : DataW H} {ps : List MemPlace} (hT : tyIn P T (.inl t) = true) (hv : Value.okWide P w r b0 t v) (h : DataW.Trod en P w base sp hd t v d ps) (hlt : Light P t d) :
  ∃ x : (argVP T).den, wfV (argVP T) x ∧ ∀ N β len, Sees β w → VsRel N β (encV (argVP T) x len) [v] := by
 obtain ⟨fuel, h⟩ := h
 obtain ⟨d', hd', hr⟩ := (read_ty T).1 t _ fuel _ hT h hlt
 obtain ⟨x, hx, ex⟩ := tyVP_of T d' hd'
 cases T with
 | pair a b =>
  simp only [tyIn] at hT
  split at hT
  ·rename_i fs hu
   obtain ⟨cs, rfl, _⟩ := okWide_struct hu hv
   refine ⟨x, hx, fun N β len hs => .one (.agg _ _ ?_)⟩
   have := hr N β hs
   rw [← ex len] at this
   exact this
  ·cases hT
 | unit => simp [tyIn] at hT
 | bool =>
  simp only [tyIn] at hT
  split at hT
  ·rename_i hu
   obtain ⟨b, rfl⟩ := okWide_bool hu hv
   exact ⟨x, hx, fun N β len hs => by have := hr N β hs; rw [← ex len] at this; exact this⟩
  ·cases hT
 | int k =>
  simp only [tyIn] at hT
  split at hT
  ·rename_i q hu
   obtain ⟨b, rfl⟩ := okWide_int hu hv
   exact ⟨x, hx, fun N β len hs => by have := hr N β hs; rw [← ex len] at this; exact this⟩
  ·cases hT
 | byte =>
  simp only [tyIn] at hT
  split at hT
  ·rename_i q hu
   obtain ⟨b, rfl⟩ := okWide_int hu hv
   exact ⟨x, hx, fun N β len hs => by have := hr N β hs; rw [← ex len] at this; exact this⟩
  ·cases hT
 | str =>
  simp only [tyIn] at hT
  split at hT
  ·rename_i hu
   obtain ⟨b, rfl⟩ := okWide_string hu hv
   exact ⟨x, hx, fun N β len hs => by have := hr N β hs; rw [← ex len] at this; exact this⟩
  ·cases hT
 | sl T =>
  simp only [tyIn] at hT
  split at hT
  ·rename_i e hu
   obtain ⟨a, l, c, rfl⟩ := okWide_slice hu hv
   exact ⟨x, hx, fun N β len hs => by have := hr N β hs; rw [← ex len] at this; exact this⟩
  ·cases hT
def parsIn (P : Program) : List TypeId → List Ty → Bool
 | [], [] => true
 | t :: ts, T :: Ts => tyIn P T (.inl t) && parsIn P ts Ts
 | _, _ => false
theorem read_args {r : Reach} {b0 : Nat} : ∀ {ts : List TypeId} {Ts : List Ty} {vs : List Value} {ds : List (DataW H)} {ps : List MemPlace}, parsIn P ts Ts = true →
  (∀ (j : Nat) t v, ts[j]? = some t → vs[j]? = some v → Value.okWide P w r b0 t v) → DataW.TrodAll en P w base sp hd ts vs ds ps → (∀ n, n ∈ DataW.weightsEach P ts ds → n ≤ reachBytes) →
  ∃ x : (parV Ts).den, wfV (parV Ts) x ∧ ∀ N β len, Sees β w → VsRel N β (encV (parV Ts) x len) vs
 | [], [], vs, ds, ps, _, _, h, _ => by
  obtain ⟨rfl, _, _⟩ := trodAll_nil h
  exact ⟨(), trivial, fun _ _ _ _ => .nil⟩
 | t :: ts, T :: Ts, vs, ds, ps, ht, hv, h, hlt => by
  simp only [parsIn, Bool.and_eq_true] at ht
  obtain ⟨v, vs', d, ds', p, q, rfl, rfl, _, h1, h2⟩ := trodAll_cons h
  unfold DataW.weightsEach at hlt
  obtain ⟨x, hx, hxr⟩ := read_arg ht.1 (hv 0 t v rfl rfl) h1 fun n hn => hlt n (List.mem_append_left _ hn)
  obtain ⟨y, hy, hyr⟩ := read_args ht.2 (fun j t' v' h1 h2 => hv (j + 1) t' v' (by simpa using h1) (by simpa using h2)) h2 fun n hn => hlt n (List.mem_append_right _ hn)
  cases Ts with
  | nil =>
   cases ts with
   | nil =>
    obtain ⟨rfl, _, _⟩ := trodAll_nil h2
    exact ⟨x, hx, fun N β len hs => hxr N β len hs⟩
   | cons a b => simp [parsIn] at ht
  | cons T' Ts' => exact ⟨(x, y), ⟨hx, hy⟩, fun N β len hs => (hxr N β len hs).append (hyr N β len hs)⟩
 | [], _ :: _, _, _, _, ht, _, _, _ => by simp [parsIn] at ht
 | _ :: _, [], _, _, _, ht, _, _, _ => by simp [parsIn] at ht
end reads
theorem Kept.sameAt {w w' : World} (h : Kept w w') {p : MemPlace} (hp : p.block < w.heap.size) : w.sameAt w' p := by
 have hk := h.1.2.2 p.block hp
 cases p with
 | cell b off =>
  show w'.cell? ⟨b, off, none⟩ = w.cell? ⟨b, off, none⟩
  simp only [MemPlace.block] at hk
  unfold World.cell?
  simp only
  split at hk
  ·rename_i c t fr c' t' fr' h1 h2
   rw [h1, h2]
   simp only [Option.isSome_none, Bool.false_eq_true, if_false]
   exact hk.2.2.2 off fun f => f
  ·rename_i h1 h2
   rw [h1, h2]
  ·rw [hk]
 | map b =>
  show w'.heap[b]? = w.heap[b]?
  simp only [MemPlace.block] at hk
  split at hk
  ·rename_i c t fr c' t' fr' h1 h2
   obtain ⟨rfl, rfl, _, he⟩ := hk
   have : c' = c := Array.ext_getElem? fun j => he j fun f => f
   rw [h1, h2, this]
  ·rename_i h1 h2
   rcases hk with f | ⟨rfl, rfl⟩
   ·exact f.elim
   ·rw [h1, h2]
  ·exact hk
section again
variable {H : Type} {en : TypeId × Value → H} {P : Program} {w w' : World} {base : Nat} {sp : Nat → Bool} {hd : Bool}
theorem trodAll_carry : ∀ {ts : List TypeId} {vs : List Value} {ds : List (DataW H)} {ps : List MemPlace}, DataW.TrodAll en P w base sp hd ts vs ds ps → (∀ p, p ∈ ps → w.sameAt w' p) → DataW.TrodAll en P w' base sp hd ts vs ds ps
 | [], [], [], _, h, _ => h
 | _ :: _, _ :: _, _ :: _, _, ⟨p, q, ⟨n, h1⟩, h2, e⟩, hs => ⟨p, q, ⟨n, DataW.trod_carry n _ _ _ h1 fun x hx => hs x (by rw [e]; exact List.mem_append_left _ hx)⟩, trodAll_carry h2 fun x hx => hs x (by rw [e]; exact List.mem_append_right _ hx), e⟩
theorem trodAll_length : ∀ {ts : List TypeId} {vs : List Value} {ds : List (DataW H)} {ps : List MemPlace}, DataW.TrodAll en P w base sp hd ts vs ds ps → ds.length = ts.length
 | [], [], [], _, _ => rfl
 | _ :: _, _ :: _, _ :: _, _, ⟨_, _, _, h2, _⟩ => by simp only [List.length_cons, trodAll_length h2]
theorem read_again (hl : laidOutB P = true) (hm : mapsRowed P = true)
  (hf : ((List.range P.types.size).all fun t => match P.underlying t with | some (.slice e) => decide (0 < P.cellsOf e) | _ => true) = true)
  {ts : List TypeId} (hts : (ts.all fun t => decide (t < P.types.size)) = true) {vs : List Value} {ds : List (DataW H)} {ps : List MemPlace} (h : DataW.TrodAll en P w 0 (fun _ => true) true ts vs ds ps) (hlt : ∀ p, p ∈ ps → p.block < w.heap.size) (hk : Kept w w')
  (hs : ∀ p, p ∈ ps → sp p.block = true) : DataW.TrodAll en P w' 0 sp true ts vs ds ps :=
 trodAll_carry (DataW.TrodAll.respare (kids_rows hl hm) (slices_full_of P hf) (fun t ht => by have := List.all_eq_true.1 hts t ht; simpa using this) h hs) fun p hp => hk.sameAt (hlt p hp)
end again
def lawCon (Ts : List Ty) : Con where
 D := ⟨[], parV Ts⟩
 A := ⟨[], .bool⟩
 pre := fun x => wfV (parV Ts) x.2
 spec := fun _ => .inl ((), true)
theorem law_calls {P : Program} {f : FuncId} {Ts : List Ty} (hC : ConOk P f (lawCon Ts)) {H : Type} {en : TypeId × Value → H} {w : World} {r : Reach} {b0 : Nat} {ts : List TypeId} {args : Array Value} {ds : List (DataW H)} {ps : List MemPlace}
  (ht : parsIn P ts Ts = true) (hv : ∀ (j : Nat) t v, ts[j]? = some t → args.toList[j]? = some v → Value.okWide P w r b0 t v) (hA : DataW.TrodAll en P w 0 (fun _ => true) true ts args.toList ds ps)
  (hG : GlobOk fun b o => w.cell? ⟨b, o, none⟩) (hT : TabsOk (fun b o => w.cell? ⟨b, o, none⟩) w) {us : List TypeId} (hZ : (DataW.weightsEach P (ts ++ us) (ds ++ [])).all (· ≤ reachBytes) = true) : Calls P f args w fun e w' => e = .returned (.bool true) ∧ Kept w w' := by
 have hZ' := weigh_drop (trodAll_length hA) hZ
 obtain ⟨x, hx, hr⟩ := read_args ht hv hA fun n hn => by simpa using List.all_eq_true.1 hZ' n hn
 have hR : Rel ⟨fun _ => none, fun b o => w.cell? ⟨b, o, none⟩⟩ Heap.empty w := rel_empty w _ (fun _ _ _ h => h) hG hT
 refine (hC ((), x) hx _ w args hR (Dom.args_eq (lawCon Ts).D ((), x) ▸ hr _ _ _ fun b o c h => h)).mono ?_
 rintro e w' ⟨β', c, rfl, hR', hLe, hv⟩
 have hv : VRel 0 β' (.bool true true) c := hv
 have hLe : Le _ Heap.empty w β' _ w' := hLe
 rw [bool_of hv]
 exact ⟨rfl, kept_of_le (fun g cs e h => by simp [Heap.empty, Heap.row, Heap.get, Trie.get_leaf] at h) hLe⟩
theorem glob_none (h : globInts = []) {i : Nat → Nat → Option Value} : GlobOk i := fun g hg => by rw [h] at hg; simp at hg
theorem tabs_none (h : globTabs = []) {i : Nat → Nat → Option Value} {w : World} : TabsOk i w := fun g k l hg => by rw [h] at hg; simp at hg
end Go.Vx
end
section
set_option linter.unusedVariables false
set_option linter.unusedSimpArgs false
namespace Go.Vx
class Eqb (α : Type) where
 eq : (a b : α) → Decidable (a = b)
instance : Eqb Int := ⟨fun a b => inferInstance⟩
instance : Eqb Nat := ⟨fun a b => inferInstance⟩
instance : Eqb Bool := ⟨fun a b => inferInstance⟩
instance : Eqb UInt8 := ⟨fun a b => inferInstance⟩
instance : Eqb Unit := ⟨fun a b => inferInstance⟩
instance {α β : Type} [Eqb α] [Eqb β] : Eqb (α × β) := ⟨@instDecidableEqProd α β Eqb.eq Eqb.eq⟩
instance {α β : Type} [Eqb α] [Eqb β] : Eqb (α ⊕ β) := ⟨@instDecidableEqSum α β Eqb.eq Eqb.eq⟩
instance {α : Type} [Eqb α] : Eqb (List α) := ⟨@instDecidableEqList α Eqb.eq⟩
inductive Tr (α : Type) : Type 1 where
 | ret (y : α)
 | bad
 | br (c : Bool) (a b : Tr α)
 | chk (p : Prop) [d : Decidable p] (a : Tr α)
 | ok (p : Prop) (h : p) (a : Tr α)
 | twice (a : Tr α)
 | two [d : Eqb α] (a b : Tr α)
 | call {β : Type} (o : Option β) (k : β → Tr α)
 | both {β γ : Type} (o : Option (β ⊕ γ)) (k : β → Tr α) (l : γ → Tr α)
abbrev Tr.okl {α : Type} (n : Nat) (a : Tr α) : Tr α := .ok ((0 : Nat) = (0 : Nat) ∧ n = n) ⟨rfl, rfl⟩ a
def Tr.wp {α : Type} : Tr α → (α → Prop) → Prop
 | .ret y, q => q y
 | .bad, _ => False
 | .br c a b, q => (c = true → a.wp q) ∧ (c = false → b.wp q)
 | @Tr.chk _ p _ a, q => p ∧ a.wp q
 | .ok p _ a, q => p ∧ a.wp q
 | .twice a, q => Twice (a.wp q) (a.wp q)
 | @Tr.two _ _ a b, q => Twice (a.wp q) (b.wp q)
 | .call o k, q => o ≠ none ∧ o ≠ none ∧ ∀ y, o = some y → (k y).wp q
 | .both o k l, q => o ≠ none ∧ o ≠ none ∧ (∀ y, o = some (.inl y) → (k y).wp q) ∧ ∀ y, o = some (.inr y) → (l y).wp q
def Tr.val {α : Type} : Tr α → Option α
 | .ret y => some y
 | .bad => none
 | .br c a b => bif c then a.val else b.val
 | @Tr.chk _ p d a => @ite _ p d a.val none
 | .ok _ _ a => a.val
 | .twice a => a.val
 | @Tr.two _ d a b => match a.val, b.val with
  | some x, some y => @ite _ (x = y) (d.eq x y) (some x) none
  | _, _ => none
 | .call o k => match o with
  | none => none
  | some y => (k y).val
 | .both o k l => match o with
  | none => none
  | some (.inl y) => (k y).val
  | some (.inr y) => (l y).val
theorem Tr.wp_of_val {α : Type} {q : α → Prop} : ∀ {t : Tr α} {y : α}, t.val = some y → q y → t.wp q
 | .ret z, y, h, hq => by simp only [Tr.val, Option.some.injEq] at h; subst h; exact hq
 | .bad, y, h, _ => by simp [Tr.val] at h
 | .br c a b, y, h, hq => by
  cases c with
  | true => exact ⟨fun _ => Tr.wp_of_val (t := a) (by simpa [Tr.val] using h) hq, fun e => by cases e⟩
  | false => exact ⟨fun e => (by cases e), fun _ => Tr.wp_of_val (t := b) (by simpa [Tr.val] using h) hq⟩
 | @Tr.chk _ p d a, y, h, hq => by
  simp only [Tr.val] at h
  split at h
  ·rename_i hp; exact ⟨hp, Tr.wp_of_val h hq⟩
  ·cases h
 | .ok p hp a, y, h, hq => ⟨hp, Tr.wp_of_val (t := a) h hq⟩
 | .twice a, y, h, hq => ⟨Tr.wp_of_val (t := a) h hq, Tr.wp_of_val (t := a) h hq⟩
 | @Tr.two _ _ a b, y, h, hq => by
  simp only [Tr.val] at h
  split at h
  ·rename_i x z ha hb
   split at h
   ·rename_i e
    subst e
    cases h
    exact ⟨Tr.wp_of_val ha hq, Tr.wp_of_val hb hq⟩
   ·cases h
  ·cases h
 | .call o k, y, h, hq => by
  cases o with
  | none => simp [Tr.val] at h
  | some z => exact ⟨by simp, by simp, fun z' e => by cases e; exact Tr.wp_of_val h hq⟩
 | .both o k l, y, h, hq => by
  match o, h with
  | none, h => simp [Tr.val] at h
  | some (.inl z), h => exact ⟨by simp, by simp, fun z' e => (by cases e; exact Tr.wp_of_val h hq), fun z' e => by cases e⟩
  | some (.inr z), h => exact ⟨by simp, by simp, fun z' e => (by cases e), fun z' e => by cases e; exact Tr.wp_of_val h hq⟩
section loops
variable {σ ρ : Type} (body : σ → Tr (σ ⊕ ρ))
def iter : Nat → σ → Option ρ
 | 0, _ => none
 | n + 1, s => match (body s).val with
  | none => none
  | some (.inl s') => iter n s'
  | some (.inr r) => some r
def rounds : Nat := 1125899906842624
def Loop (s : σ) : Option ρ := iter body rounds s
theorem iter_mono : ∀ (n : Nat) (s : σ) (r : ρ), iter body n s = some r → iter body (n + 1) s = some r := by
 intro n
 induction n with
 | zero => intro s r h; simp [iter] at h
 | succ n ih =>
  intro s r h
  rw [iter] at h ⊢
  split
  ·rename_i e; rw [e] at h; cases h
  ·rename_i s' e; rw [e] at h; exact ih s' r h
  ·rename_i r' e; rw [e] at h; exact h
theorem iter_le {n m : Nat} (h : n ≤ m) {s : σ} {r : ρ} (hr : iter body n s = some r) : iter body m s = some r := by
 obtain ⟨k, rfl⟩ := Nat.exists_eq_add_of_le h
 induction k with
 | zero => exact hr
 | succ k ih => exact iter_mono body _ _ _ (ih (by omega))
theorem least {p : Nat → Prop} (h : ∃ n, p n) : ∃ n, p n ∧ ∀ m, p m → n ≤ m := by
 obtain ⟨n, hn⟩ := h
 induction n using Nat.strongRecOn with
 | ind n ih =>
  by_cases e : ∃ m, m < n ∧ p m
  ·obtain ⟨m, hm, hp⟩ := e; exact ih m hm hp
  ·exact ⟨n, hn, fun m hm => Nat.le_of_not_lt fun hlt => e ⟨m, hlt, hm⟩⟩
open Classical in
noncomputable def turns (s : σ) : Nat := if h : ∃ n, iter body n s ≠ none then (least h).choose else 0
theorem turns_spec {s : σ} {n : Nat} (h : iter body n s ≠ none) : iter body (turns body s) s ≠ none ∧ turns body s ≤ n := by
 have h' : ∃ n, iter body n s ≠ none := ⟨n, h⟩
 unfold turns
 rw [dif_pos h']
 exact ⟨(least h').choose_spec.1, (least h').choose_spec.2 n h⟩
theorem Loop_round {s : σ} (h : Loop body s ≠ none) : ∃ x, (body s).val = some x ∧ (match x with
  | .inr r => Loop body s = some r
  | .inl s' => Loop body s' = Loop body s ∧ turns body s' < turns body s) := by
 obtain ⟨h1, h2⟩ := turns_spec body h
 cases hn : turns body s with
 | zero => rw [hn] at h1; simp [iter] at h1
 | succ n =>
  rw [hn] at h1 h2
  cases e : (body s).val with
  | none => rw [iter, e] at h1; exact absurd rfl h1
  | some x =>
   refine ⟨x, rfl, ?_⟩
   cases x with
   | inr r =>
    have : iter body (n + 1) s = some r := by rw [iter, e]
    exact iter_le body h2 this
   | inl s' =>
    have e1 : iter body (n + 1) s = iter body n s' := by rw [iter, e]
    rw [e1] at h1
    obtain ⟨_, h4⟩ := turns_spec body h1
    refine ⟨?_, by omega⟩
    cases hr : iter body n s' with
    | none => exact absurd hr h1
    | some r =>
     have a1 : Loop body s' = some r := iter_le body (by omega) hr
     have a2 : Loop body s = some r := iter_le body h2 (e1.trans hr)
     rw [a1, a2]
end loops
def VP.dflt : (p : VP) → p.den
 | .bool => false
 | .int _ => (0 : Int)
 | .num _ => (0 : Int)
 | .byte => (0 : UInt8)
 | .str => ([] : List UInt8)
 | .vec _ => []
 | .lit _ => ()
 | .ptr _ _ _ _ => ()
 | .sl _ _ => ()
 | .part _ _ => (0, 0)
 | .nil => ()
 | .cat a b => (a.dflt, b.dflt)
 | .agg l => l.dflt
 | .tup l => l.dflt
 | .func _ a b => (a.dflt, b.dflt)
def RP.dflt : (r : RP) → r.den
 | .vec _ _ _ => []
 | .cells p _ _ => p.dflt
 | .dead => ()
def rowsDflt : (l : List RP) → rowsDen l
 | [] => ()
 | r :: rs => (r.dflt, rowsDflt rs)
def Dom.dflt (D : Dom) : D.den := (rowsDflt D.rows, D.vals.dflt)
def tcon (D A : Dom) {α : Type} (pa : D.den → α → A.den) (F : D.den → Option α) : Con where
 D := D
 A := A
 pre := fun x => F x ≠ none
 spec := fun x => match F x with
  | some y => .inl (pa x y)
  | none => .inl A.dflt
 use := fun x ka _ => F x ≠ none ∧ ∀ y, F x = some y → ka (pa x y)
 ok := fun x ka kb h => by
  cases e : F x with
  | some y => exact h.2 y e
  | none => exact absurd e h.1
theorem tcon_ok {P : Program} (hm : P.follows .mixedOrders = true) (hP : progOk P = true) {T : Book} (hT : BookOk P T) {f : FuncId} {D A : Dom} {α : Type} {pa : D.den → α → A.den} {F : D.den → Option α}
  (hf : isFn P f = true) {ls : List Lap} (hls : LapsOk P D.rows.length f ls) (d : Nat) (hA : ∀ y, (A.args y).length = 1) (t : D.den → Tr α) (hF : ∀ x, F x = (t x).val)
  (h : ∀ x qa qb, (tcon D A pa F).run P T d ls f (fun _ => true) x qa qb = (t x).wp fun y => qa (pa x y)) : ConOk P f (tcon D A pa F) := by
 refine Con.proved hm hP hT hf hls d (fun _ => true) hA (.inr fun x y hx e => ?_) fun x hx => ?_
 ·simp only [tcon] at e
  split at e <;> cases e
 ·rw [h x]
  have hx : F x ≠ none := hx
  cases e : F x with
  | none => exact absurd e hx
  | some y =>
   refine Tr.wp_of_val ((hF x).symm.trans e) ?_
   simp only [tcon, e]
def Book.addS (T : Book) (f : FuncId) (sel : List AV → Bool) (C : Con) : Book := fun g args H => match Nat.beq g f with
 | true => match sel args with
  | true => some C
  | false => T g args H
 | false => T g args H
theorem BookOk.addS {P : Program} {T : Book} (hT : BookOk P T) {f : FuncId} {sel : List AV → Bool} {C : Con} (h : ConOk P f C) : BookOk P (T.addS f sel C) := fun g args H D hD => by
 unfold Book.addS at hD
 split at hD
 ·rename_i hg
  have := Nat.eq_of_beq_eq_true hg
  subst this
  split at hD
  ·cases hD; exact h
  ·exact hT _ _ _ _ hD
 ·exact hT _ _ _ _ hD
def isFunc (i n : Nat) (args : List AV) : Bool := match args[i]? with
 | some (.func (.func m) _ _) => Nat.beq m n
 | _ => false
theorem law_ok {P : Program} {f : FuncId} {Ts : List Ty} {F : (lawCon Ts).D.den → Option Bool} (h : ConOk P f (tcon (lawCon Ts).D (lawCon Ts).A (fun _ y => ((), y)) F)) (ht : ∀ x, (lawCon Ts).pre x → F x = some true) : ConOk P f (lawCon Ts) := fun x hx => by
 have e := ht x hx
 have hx' : (tcon (lawCon Ts).D (lawCon Ts).A (fun _ y => ((), y)) F).pre x := by show F x ≠ none; rw [e]; simp
 have := h x hx'
 simp only [tcon, Con.val, Con.heap, e] at this
 exact this
def tlap (id N : Nat) (live : List Nat) (D : Dom) (oA : Out) (liveA : List Nat) (A : Dom) {α : Type} (pa : D.den → α → A.den) (F : D.den → Option α) : Lap where
 id := id
 N := N
 live := live
 D := D
 oA := oA
 liveA := liveA
 A := A
 inv := fun x => F x ≠ none
 relA := fun x y => ∃ a, F x = some a ∧ y = pa x a
 use := fun x ka _ => F x ≠ none ∧ ∀ y, F x = some y → ka (pa x y)
 ok := fun x ka kb h => ⟨fun y ⟨a, e, hy⟩ => by subst hy; exact h.2 a e, fun y h => h.elim⟩
theorem tlap_ok {P : Program} (hm : P.follows .mixedOrders = true) (hP : progOk P = true) {T : Book} (hT : BookOk P T) {K f id N : Nat} {live : List Nat} {D : Dom} {oA : Out} {liveA : List Nat} {A : Dom} {σ α : Type} {pa : D.den → α → A.den} {F : D.den → Option α}
  (hf : isFn P f = true) (h1 : oneLoop (codeOf P f) id = true) {ls : List Lap} (hls : LapsOk P K f ls) (d : Nat) (pk : D.den → σ → D.den) (un : D.den → σ) (body : D.den → σ → Tr (σ ⊕ α)) (hu : ∀ x s, un (pk x s) = s) (hb : ∀ x s, body (pk x s) = body x) (hp : ∀ x s, pa (pk x s) = pa x) (hF : ∀ x, F x = Loop (body x) (un x))
  (h : ∀ x again qa qb, (tlap id N live D oA liveA A pa F).run P T d K ls f x again qa qb = (body x (un x)).wp fun r => match r with
   | .inl s => again (pk x s)
   | .inr a => qa (pa x a)) : LapOk P K (codeOf P f) (tlap id N live D oA liveA A pa F) := by
 refine Lap.proved hm hP hT (l := tlap id N live D oA liveA A pa F) hf h1 hls d (fun x => turns (body x) (un x)) fun (x : D.den) (hx : F x ≠ none) => ?_
 rw [hF] at hx
 rw [h x]
 obtain ⟨r, e, hr⟩ := Loop_round (body x) hx
 refine Tr.wp_of_val e ?_
 cases r with
 | inr a => exact ⟨a, (hF x).trans hr, rfl⟩
 | inl s =>
  have e1 : F (pk x s) = F x := by rw [hF, hF, hu, hb]; exact hr.1
  refine ⟨?_, ?_, fun y ⟨a, h1, h2⟩ => ⟨a, e1.symm.trans h1, by rw [h2, hp]⟩, fun y h => h⟩
  ·show F (pk x s) ≠ none
   rw [e1, hF]; exact hx
  ·show turns (body (pk x s)) (un (pk x s)) < turns (body x) (un x)
   rw [hu, hb]; exact hr.2
def tlap2 (id N : Nat) (live : List Nat) (D : Dom) (oA : Out) (liveA : List Nat) (A : Dom) (oB : Out) (liveB : List Nat) (B : Dom) {α β : Type} (pa : D.den → α → A.den) (pb : D.den → β → B.den) (F : D.den → Option (α ⊕ β)) : Lap where
 id := id
 N := N
 live := live
 D := D
 oA := oA
 liveA := liveA
 A := A
 oB := oB
 liveB := liveB
 B := B
 inv := fun x => F x ≠ none
 relA := fun x y => ∃ a, F x = some (.inl a) ∧ y = pa x a
 relB := fun x y => ∃ a, F x = some (.inr a) ∧ y = pb x a
 use := fun x ka kb => F x ≠ none ∧ (∀ y, F x = some (.inl y) → ka (pa x y)) ∧ ∀ y, F x = some (.inr y) → kb (pb x y)
 ok := fun x ka kb h => ⟨fun y ⟨a, e, hy⟩ => by subst hy; exact h.2.1 a e, fun y ⟨a, e, hy⟩ => by subst hy; exact h.2.2 a e⟩
theorem tlap2_ok {P : Program} (hm : P.follows .mixedOrders = true) (hP : progOk P = true) {T : Book} (hT : BookOk P T) {K f id N : Nat} {live : List Nat} {D : Dom} {oA oB : Out} {liveA liveB : List Nat} {A B : Dom} {σ α β : Type} {pa : D.den → α → A.den} {pb : D.den → β → B.den} {F : D.den → Option (α ⊕ β)}
  (hf : isFn P f = true) (h1 : oneLoop (codeOf P f) id = true) {ls : List Lap} (hls : LapsOk P K f ls) (d : Nat) (pk : D.den → σ → D.den) (un : D.den → σ) (body : D.den → σ → Tr (σ ⊕ (α ⊕ β))) (hu : ∀ x s, un (pk x s) = s) (hb : ∀ x s, body (pk x s) = body x) (hp : ∀ x s, pa (pk x s) = pa x) (hp' : ∀ x s, pb (pk x s) = pb x) (hF : ∀ x, F x = Loop (body x) (un x))
  (h : ∀ x again qa qb, (tlap2 id N live D oA liveA A oB liveB B pa pb F).run P T d K ls f x again qa qb = (body x (un x)).wp fun r => match r with
   | .inl s => again (pk x s)
   | .inr (.inl a) => qa (pa x a)
   | .inr (.inr a) => qb (pb x a)) : LapOk P K (codeOf P f) (tlap2 id N live D oA liveA A oB liveB B pa pb F) := by
 refine Lap.proved hm hP hT (l := tlap2 id N live D oA liveA A oB liveB B pa pb F) hf h1 hls d (fun x => turns (body x) (un x)) fun (x : D.den) (hx : F x ≠ none) => ?_
 rw [hF] at hx
 rw [h x]
 obtain ⟨r, e, hr⟩ := Loop_round (body x) hx
 refine Tr.wp_of_val e ?_
 cases r with
 | inr a =>
  cases a with
  | inl a => exact ⟨a, (hF x).trans hr, rfl⟩
  | inr a => exact ⟨a, (hF x).trans hr, rfl⟩
 | inl s =>
  have e1 : F (pk x s) = F x := by rw [hF, hF, hu, hb]; exact hr.1
  refine ⟨?_, ?_, fun y ⟨a, h1, h2⟩ => ⟨a, e1.symm.trans h1, by rw [h2, hp]⟩, fun y ⟨a, h1, h2⟩ => ⟨a, e1.symm.trans h1, by rw [h2, hp']⟩⟩
  ·show F (pk x s) ≠ none
   rw [e1, hF]; exact hx
  ·show turns (body (pk x s)) (un (pk x s)) < turns (body x) (un x)
   rw [hu, hb]; exact hr.2
end Go.Vx
end
section
set_option maxRecDepth 1000000
namespace Go.Vx
open Go Go.Vx Go.Proofs
theorem Base.mixed : Tryz.prog.follows .mixedOrders = true := by kernel_rfl
theorem Base.prog_ok : progOk Tryz.prog = true := by kernel_rfl
def book0 : Book := Book.none
theorem book0_ok : BookOk Tryz.prog book0 := BookOk.none _
end Go.Vx
end
section
set_option maxRecDepth 1000000
set_option linter.unusedVariables false
namespace Go.Proofs
set_option maxHeartbeats 1000000 in
theorem Tryz.stringslite_IndexByte (s : ByteArray) (c : Int) (w : World) :
  Calls Tryz.prog 123 #[.string s, .int .u8 c] w fun e w' => e = .returned (.int .i64 (Lib.indexByte s.data.toList c.toNat.toUInt8)) ∧ w' = w := by
 go_enter Tryz.func123, Tryz.ntmps123
 go_wp2
 rw [run_callFunc_extern Tryz.func138 (by kernel_rfl) (by kernel_rfl) (by kernel_rfl) (e := Extern.BytealgIndexByte.indexByte) (by kernel_rfl), Lib.run_indexByteString]
 simp only [Result.andThen]
 rw [Oper.upon_value]
 go_wp2
 go_ret
 exact ⟨rfl, rfl⟩
set_option maxHeartbeats 1000000 in
theorem Tryz.strings_Count_one (s : ByteArray) (c : UInt8) (w : World) :
  Calls Tryz.prog 115 #[.string s, .string ⟨#[c]⟩] w fun e w' => e = .returned (.int .i64 (Lib.countByte s.data.toList c)) ∧ w' = w := by
 go_enter Tryz.func115, Tryz.ntmps115
 go_wp2
 rw [run_callFunc_extern Tryz.func133 (by kernel_rfl) (by kernel_rfl) (by kernel_rfl) (e := Extern.BytealgCount.count) (by kernel_rfl), Lib.run_countString]
 simp only [Result.andThen]
 rw [Oper.upon_value]
 go_wp2
 go_ret
 exact ⟨rfl, rfl⟩
end Go.Proofs
namespace Go.Vx
open Go Go.Vx Go.Proofs
def isStr (i : Nat) (l : List UInt8) (args : List AV) : Bool := match args[i]? with
 | some (.str false s) => decide (s = l)
 | _ => false
theorem two_of {N : Nat} {β : At} {x y : AV} {cargs : Array Value} (h : VsRel N β [x, y] cargs.toList) : ∃ c d, cargs = #[c, d] ∧ VRel N β x c ∧ VRel N β y d := by
 obtain ⟨l⟩ := cargs
 simp only at h
 cases h with
 | cons _ c _ cs h1 ht =>
  cases ht with
  | cons _ d _ cs' h2 ht' =>
   cases ht'
   exact ⟨c, d, rfl, h1, h2⟩
namespace slite_IndexByte
def D : Dom := ⟨[], (.cat .str (.int .u8))⟩
def A : Dom := ⟨[], .int .i64⟩
def sel : List Nat := [0, 1]
def f (s : List UInt8) (c : Int) : Option (Int) := some (Lib.indexByte s c.toNat.toUInt8)
def F (x : D.den) : Option (Int) := f x.2.1 x.2.2
def pa : D.den → (Int) → A.den := fun (_, (_, _)) y1 => ((), y1)
def con : Con := tcon D A pa F
theorem ok : ConOk Tryz.prog 123 con := by
 rintro ⟨u, s, c⟩ hp β w cargs hR ha
 obtain ⟨a, b, rfl, h1, h2⟩ := two_of (show VsRel _ β [.str true s, .int true .u8 c] cargs.toList from ha)
 obtain ⟨b1, rfl, hb⟩ := str_of h1
 rw [int_of h2]
 refine (Go.Proofs.Tryz.stringslite_IndexByte b1 c w).mono ?_
 rintro e w' ⟨rfl, rfl⟩
 refine ⟨β, _, rfl, hR, Le.refl _ _ _, ?_⟩
 rw [hb]
 exact .int _ _ _
end slite_IndexByte
def bk_slite_IndexByte : Book := book0.add 123 slite_IndexByte.con
theorem bk_slite_IndexByte_ok : BookOk Tryz.prog bk_slite_IndexByte := book0_ok.add slite_IndexByte.ok
namespace strings_Count
def D : Dom := ⟨[], (.cat .str .str)⟩
def A : Dom := ⟨[], .int .i64⟩
def sel : List Nat := [0, 1]
def f (s : List UInt8) (p : List UInt8) : Option (Int) := match p with
 | [c] => some (Lib.countByte s c)
 | _ => none
def F (x : D.den) : Option (Int) := f x.2.1 x.2.2
def pa : D.den → (Int) → A.den := fun (_, (_, _)) y1 => ((), y1)
def con : Con := tcon D A pa F
theorem ok : ConOk Tryz.prog 115 con := by
 rintro ⟨u, s, p⟩ hp β w cargs hR ha
 obtain ⟨a, b, rfl, h1, h2⟩ := two_of (show VsRel _ β [.str true s, .str true p] cargs.toList from ha)
 obtain ⟨b1, rfl, hb⟩ := str_of h1
 obtain ⟨b2, rfl, hb2⟩ := str_of h2
 match p with
 | [] => exact absurd rfl hp
 | _ :: _ :: _ => exact absurd rfl hp
 | [c] =>
  obtain ⟨⟨l⟩⟩ := b2
  simp only at hb2
  subst hb2
  refine (Go.Proofs.Tryz.strings_Count_one b1 c w).mono ?_
  rintro e w' ⟨rfl, rfl⟩
  refine ⟨β, _, rfl, hR, Le.refl _ _ _, ?_⟩
  rw [hb]
  exact .int _ _ _
end strings_Count
def bk_strings_Count : Book := bk_slite_IndexByte.add 115 strings_Count.con
theorem bk_strings_Count_ok : BookOk Tryz.prog bk_strings_Count := bk_slite_IndexByte_ok.add strings_Count.ok
end Go.Vx
end
section
set_option linter.unusedVariables false
namespace Go.Vx
open Go Go.Vx Go.RowKit
theorem rel_below {β : At} {H : Heap} {w w' : World} (hR : Rel β H w) (hb : Below w.heap.size w w') : Rel β H w' ∧ Le β H w β H w' := by
 constructor
 ·exact {
   lies := fun g b hg => by
    obtain ⟨cs, e, ro, h1, h2⟩ := hR.lies g b hg
    exact ⟨cs, e, ro, h1, h2.later (Nat.le_refl _) (Keeps.refl _ _) fun hn => hb.block _ (hR.blk_lt hg hn)⟩
   tot := hR.tot
   fresh := hR.fresh
   apart := hR.apart
   immw := fun b o c h => (World.cell?_of_block (w := w) (a := ⟨b, o, none⟩) (hb.block _ (hR.imm_lt h))).trans (hR.immw b o c h)
   immm := hR.immm
   glob := hR.glob
   tab := hR.tab.keep (fun _ _ _ h => h) fun g c hc => hb.block _ (hR.imm_lt hc)
   typ := fun g b cs e hg hr => (hR.typ g b cs e hg hr).same fun hn => hb.block _ (hR.blk_lt hg hn)
   fro := hR.fro }
 ·exact ⟨hb.os, hb.tape, hb.output, hb.size, Nat.le_refl _, Keeps.refl _ _, fun _ _ _ h => .inl ⟨rfl, _, _, h⟩, fun _ _ _ h => .inl h, fun k hk _ => hb.block k hk, fun _ h => .inl h⟩
theorem rel_own {β : At} {H : Heap} {w w' : World} (hR : Rel β H w) (hb : Below w.heap.size w w') {e e' : TypeId} {A n sz : Nat} {xs : List Value} (ho : w'.ownsRow w.heap.size e sz (.slice (some ⟨A, 0, none⟩) n n) n xs)
  (hee : e' = e) (hlt : Nat.blt e KT = true) {cs : List AV} {ob : AObj} (hob : ob.row = some (cs, e', false)) (hv : VsRel H.n β cs xs) (hp : cs.all AV.cell = true) :
  ∃ C, n * sz ≤ C ∧ Rel (put β H.n (some ⟨A, 0, C, false⟩)) (H.push ob) w' ∧ Le β H w (put β H.n (some ⟨A, 0, C, false⟩)) (H.push ob) w' := by
 obtain ⟨hx, ⟨h, _⟩ | ⟨g, cap, cur, h, hg, hc, hn, hcap, hcs, ht⟩⟩ := ho
 ·cases h
 ·cases h
  have hl := hv.length
  have hsz : cs.length ≤ cur.size := by rw [hcs]; omega
  refine ⟨cur.size, by rw [hcs]; exact Nat.le_refl _, hR.push ⟨A, 0, cur.size, false⟩ hob (fun g b' hb' hn' => ?_) (fun p c hc' => ?_) (fun k hk _ => hb.block k hk) ?_ (fun _ => ⟨cur, (0, 0), by rw [hee, unT_lt hlt]; exact hc, fun hk => ⟨rfl, (ty_low hlt).2 (hee ▸ hk)⟩⟩), Le.alloc hR hb.os hb.tape hb.output hb.size hb.block _ hg ob⟩
  ·have := hR.blk_lt hb' hn'; simp; omega
  ·have := hR.imm_lt hc'; simp at this; omega
  ·refine Lies.new (fr := (0, 0)) ?_ hp hsz _ hc (by simp)
   have : cur.toList.take cs.length = xs := by rw [← ht]; congr 1; rw [ht] at *; omega
   rw [this]
   exact hv.mono (by omega) (Keeps.new _ _ _)
theorem rel_own2 {β : At} {H : Heap} {w w' : World} (hR : Rel β H w) (hb : Below w.heap.size w w') {e : TypeId} {n sz : Nat} {xs : List Value} {v' : Value} (ho : w'.ownsRow w.heap.size e sz v' n xs) (hlt : Nat.blt e KT = true)
  {cs : List AV} {ob : AObj} (hob : ob.row = some (cs, e, false)) (hv : VsRel H.n β cs xs) (hp : cs.all AV.cell = true) (t : Bool) :
  ∃ b, Rel (put β H.n (some b)) (H.push ob) w' ∧ Le β H w (put β H.n (some b)) (H.push ob) w' ∧ VRel (H.n + 1) (put β H.n (some b)) (.slice t (some ⟨H.n, 0, sz, 0⟩) n sz) v' := by
 obtain ⟨hx, ⟨h, hn0⟩ | ⟨g, cap, cur, h, hg, hc, hn, hcap, hcs, ht⟩⟩ := ho
 ·subst hn0
  have hl := hv.length
  have hnil : cs = [] := List.eq_nil_of_length_eq_zero (by rw [hl, hx]; simp)
  subst hnil
  obtain ⟨hr1, hr2⟩ := rel_below hR hb
  subst h
  refine ⟨⟨w'.heap.size, 0, 0, true⟩, hr1.push ⟨w'.heap.size, 0, 0, true⟩ hob (fun g b' hb' hn' => by have := hr1.blk_lt hb' hn'; simp; omega) (fun p c hc => by have := hr1.imm_lt hc; simp at this) (fun _ _ _ => rfl)
   ⟨fun j v hv => (by simp at hv), fun j v hv => (by simp at hv), (by simp), fun _ => rfl, fun _ _ => rfl, fun h => (by cases h), fun _ h => (by cases h)⟩ (fun hn => by cases hn), Le.alloc hR hb.os hb.tape hb.output hb.size hb.block ⟨w'.heap.size, 0, 0, true⟩ hb.size ob, ?_⟩
  refine .slice _ _ _ _ _ _ (by simp) (Nat.le_refl _) (fun _ => rfl) fun b hb => ?_
  rw [put_same] at hb
  cases hb
  exact ⟨fun _ => ⟨rfl, fun _ => rfl⟩, fun h => by cases h⟩
 ·subst h
  have hl := hv.length
  have hsz : cs.length ≤ cur.size := by rw [hl, hx, hcs]; exact Nat.mul_le_mul_right _ hn
  refine ⟨⟨g, 0, cur.size, false⟩, hR.push ⟨g, 0, cur.size, false⟩ hob (fun g' b' hb' hn' => ?_) (fun p c hc' => ?_) (fun k hk _ => hb.block k hk) ?_ (fun _ => ⟨cur, (0, 0), by rw [unT_lt hlt]; exact hc, fun hk => ⟨rfl, (ty_low hlt).2 hk⟩⟩), Le.alloc hR hb.os hb.tape hb.output hb.size hb.block _ hg ob, slice_new hn (by rw [hcs]; exact Nat.le_refl _)⟩
  ·have := hR.blk_lt hb' hn'; simp; omega
  ·have := hR.imm_lt hc'; simp at this; omega
  ·refine Lies.new (fr := (0, 0)) ?_ hp hsz _ hc (by simp)
   have : cur.toList.take cs.length = xs := by rw [← ht, hl, hx]
   rw [this]
   exact hv.mono (by omega) (Keeps.new _ _ _)
theorem tcon_call {P : Program} {f : FuncId} {D A : Dom} {α : Type} {pa : D.den → α → A.den} {F : D.den → Option α}
  (h : ∀ x y, F x = some y → CallsTo P f (D.args x) (D.heap x) (A.one (pa x y)) (A.heap (pa x y))) : ConOk P f (tcon D A pa F) := fun x hx => by
 cases e : F x with
 | none => exact absurd e hx
 | some y =>
  have hs : (tcon D A pa F).spec x = .inl (pa x y) := by simp only [tcon, e]
  have := h x y e
  unfold Con.val Con.heap
  rw [hs]
  exact this
end Go.Vx
end
section
namespace Go.Proofs
open Go.Shelf
def Tryz.lays171_ren : Go.Shelf.Ren := ⟨fun | 171 => 45 | 243 => 65 | 246 => 80 | 283 => 100 | 284 => 101 | 285 => 102 | 286 => 103 | 129 => 119 | 317 => 118 | 318 => 120 | 319 => 121 | 320 => 122 | 337 => 136 | 338 => 137 | n => n, fun | 3 => 3 | 9 => 9 | 2 => 2 | 4 => 4 | 171 => 112 | 0 => 0 | 53 => 113 | 37 => 23 | 5 => 5 | 173 => 116 | 212 => 130 | 51 => 73 | 20 => 20 | 213 => 131 | 46 => 132 | 232 => 153 | 233 => 154 | n => n, fun | 17 => 2 | 18 => 4 | 19 => 5 | n => n⟩
theorem Tryz.lays171 : Go.Proofs.LaysM.n171 Tryz.prog Tryz.lays171_ren := {
 mixed := by kernel_rfl
 f129 := Tryz.func119.trans (congrArg some (by kernel_rfl))
 f171 := Tryz.func45.trans (congrArg some (by kernel_rfl))
 f243 := Tryz.func65.trans (congrArg some (by kernel_rfl))
 f246 := Tryz.func80.trans (congrArg some (by kernel_rfl))
 f283 := Tryz.func100.trans (congrArg some (by kernel_rfl))
 f284 := Tryz.func101.trans (congrArg some (by kernel_rfl))
 f285 := Tryz.func102.trans (congrArg some (by kernel_rfl))
 f286 := Tryz.func103.trans (congrArg some (by kernel_rfl))
 f317 := Tryz.func118.trans (congrArg some (by kernel_rfl))
 f318 := Tryz.func120.trans (congrArg some (by kernel_rfl))
 f319 := Tryz.func121.trans (congrArg some (by kernel_rfl))
 f320 := Tryz.func122.trans (congrArg some (by kernel_rfl))
 f337 := Tryz.func136.trans (congrArg some (by kernel_rfl))
 f338 := Tryz.func137.trans (congrArg some (by kernel_rfl))
 t0 := Tryz.underlying0
 a0 := Tryz.isAgg0
 z0 := Tryz.sizeOf0
 v0 := Tryz.zeroValue0
 t2 := Tryz.underlying2
 a2 := Tryz.isAgg2
 z2 := Tryz.sizeOf2
 v2 := Tryz.zeroValue2
 t3 := Tryz.underlying3
 a3 := Tryz.isAgg3
 z3 := Tryz.sizeOf3
 v3 := Tryz.zeroValue3
 t4 := Tryz.underlying4
 a4 := Tryz.isAgg4
 z4 := Tryz.sizeOf4
 v4 := Tryz.zeroValue4
 t5 := Tryz.underlying5
 a5 := Tryz.isAgg5
 z5 := Tryz.sizeOf5
 v5 := Tryz.zeroValue5
 t9 := Tryz.underlying9
 a9 := Tryz.isAgg9
 z9 := Tryz.sizeOf9
 v9 := Tryz.zeroValue9
 t20 := Tryz.underlying20
 a20 := Tryz.isAgg20
 z20 := Tryz.sizeOf20
 v20 := Tryz.zeroValue20
 t37 := Tryz.underlying23
 a37 := Tryz.isAgg23
 z37 := Tryz.sizeOf23
 v37 := Tryz.zeroValue23
 t46 := Tryz.underlying132
 a46 := Tryz.isAgg132
 z46 := Tryz.sizeOf132
 v46 := Tryz.zeroValue132
 t51 := Tryz.underlying73
 a51 := Tryz.isAgg73
 z51 := Tryz.sizeOf73
 v51 := Tryz.zeroValue73
 t53 := Tryz.underlying113
 a53 := Tryz.isAgg113
 z53 := Tryz.sizeOf113
 v53 := Tryz.zeroValue113
 t171 := Tryz.underlying112
 a171 := Tryz.isAgg112
 z171 := Tryz.sizeOf112
 v171 := Tryz.zeroValue112
 t173 := Tryz.underlying116
 a173 := Tryz.isAgg116
 z173 := Tryz.sizeOf116
 v173 := Tryz.zeroValue116
 t212 := Tryz.underlying130
 a212 := Tryz.isAgg130
 z212 := Tryz.sizeOf130
 v212 := Tryz.zeroValue130
 t213 := Tryz.underlying131
 a213 := Tryz.isAgg131
 z213 := Tryz.sizeOf131
 t232 := Tryz.underlying153
 a232 := Tryz.isAgg153
 z232 := Tryz.sizeOf153
 v232 := Tryz.zeroValue153
 t233 := Tryz.underlying154
 a233 := Tryz.isAgg154
 z233 := Tryz.sizeOf154
 v233 := Tryz.zeroValue154
 g17 := by kernel_rfl
 g18 := by kernel_rfl
 g19 := by kernel_rfl
 i0 := by kernel_rfl
 i2 := by kernel_rfl
 i3 := by kernel_rfl
 i4 := by kernel_rfl
 i5 := by kernel_rfl
 i9 := by kernel_rfl
 i20 := by kernel_rfl
 i37 := by kernel_rfl
 i46 := by kernel_rfl
 i51 := by kernel_rfl
 i53 := by kernel_rfl
 i171 := by kernel_rfl
 i173 := by kernel_rfl
 i212 := by kernel_rfl
 i232 := by kernel_rfl
 i233 := by kernel_rfl
 m17 := by kernel_rfl
 m18 := by kernel_rfl
 m19 := by kernel_rfl }
end Go.Proofs
end
section
set_option maxRecDepth 1000000
set_option linter.unusedVariables false
namespace Go.Vx
open Go Go.Vx Go.Proofs
theorem one_of {N : Nat} {β : At} {x : AV} {cargs : Array Value} (h : VsRel N β [x] cargs.toList) : ∃ c, cargs = #[c] ∧ VRel N β x c := by
 obtain ⟨l⟩ := cargs
 simp only at h
 cases h with
 | cons _ c _ cs h1 ht =>
  cases ht
  exact ⟨c, rfl, h1⟩
namespace strconv_Itoa
def D : Dom := ⟨[], .int .i64⟩
def A : Dom := ⟨[], .str⟩
def sel : List Nat := [0]
def f (n : Int) : Option (List UInt8) := if (decide (-9223372036854775808 ≤ n) && decide (n ≤ 9223372036854775807)) = true then some (Lib.itoa n) else none
def F (x : D.den) : Option (List UInt8) := f x.2
def pa : D.den → (List UInt8) → A.den := fun (_, _) y1 => ((), y1)
def con : Con := tcon D A pa F
theorem tab {β : At} {H : Heap} {w : World} (hR : Rel β H w) : Lib.TabIs Tryz.prog w "internal/strconv.uint64pow10" .u64 Lib.pow10Tab := by
 obtain ⟨_, t, m, hw⟩ := hR.tab 2 .u64 Lib.pow10Tab (by unfold globTabs; exact List.mem_of_getElem? (i := 0) rfl)
 unfold Lib.TabIs World.var?
 rw [show Tryz.prog.globalNamed "internal/strconv.uint64pow10" = some 2 from by kernel_rfl]
 simp only [Option.bind_some, hw]
theorem ok : ConOk Tryz.prog 45 con := tcon_call fun x y hy => by
 obtain ⟨u, n⟩ := x
 intro β w cargs hR ha
 obtain ⟨a, rfl, h1⟩ := one_of (show VsRel _ β [.int true .i64 n] cargs.toList from ha)
 rw [int_of h1]
 have hF : f n = some y := hy
 unfold f at hF
 split at hF
 ·rename_i hc
  cases hF
  simp only [Bool.and_eq_true, decide_eq_true_eq] at hc
  refine (Any.strconv_Itoa Tryz.lays171 n hc.1 hc.2 w (tab hR)).mono ?_
  rintro e w' ⟨rfl, k, os, rfl⟩
  obtain ⟨g1, g2⟩ := rel_below hR (Lib.below_grow _ w (Nat.le_refl _) k os)
  exact ⟨β, _, rfl, g1, g2, .str _ _ _ (by simp)⟩
 ·cases hF
end strconv_Itoa
def bk_strconv_Itoa : Book := bk_strings_Count.add 45 strconv_Itoa.con
theorem bk_strconv_Itoa_ok : BookOk Tryz.prog bk_strconv_Itoa := bk_strings_Count_ok.add strconv_Itoa.ok
end Go.Vx
end
section
namespace Go.Proofs
open Go.Shelf
def Tryz.lays157_ren : Go.Shelf.Ren := ⟨fun | 157 => 77 | 229 => 98 | 199 => 99 | 261 => 117 | 311 => 134 | 312 => 135 | n => n, fun | 9 => 9 | 31 => 41 | 3 => 3 | 5 => 5 | 4 => 4 | 119 => 109 | 0 => 0 | 40 => 111 | 152 => 123 | 21 => 21 | 154 => 125 | 51 => 73 | 141 => 127 | 196 => 140 | 193 => 137 | 198 => 143 | 49 => 141 | 194 => 138 | 201 => 146 | 226 => 151 | 46 => 132 | 227 => 152 | n => n, fun | 0 => 0 | 6 => 1 | n => n⟩
theorem Tryz.lays157 : Go.Proofs.LaysM.n157 Tryz.prog Tryz.lays157_ren := {
 mixed := by kernel_rfl
 f157 := Tryz.func77.trans (congrArg some (by kernel_rfl))
 f199 := Tryz.func99.trans (congrArg some (by kernel_rfl))
 f229 := Tryz.func98.trans (congrArg some (by kernel_rfl))
 f261 := Tryz.func117.trans (congrArg some (by kernel_rfl))
 f311 := Tryz.func134.trans (congrArg some (by kernel_rfl))
 f312 := Tryz.func135.trans (congrArg some (by kernel_rfl))
 t0 := Tryz.underlying0
 a0 := Tryz.isAgg0
 z0 := Tryz.sizeOf0
 v0 := Tryz.zeroValue0
 t3 := Tryz.underlying3
 a3 := Tryz.isAgg3
 z3 := Tryz.sizeOf3
 v3 := Tryz.zeroValue3
 t4 := Tryz.underlying4
 a4 := Tryz.isAgg4
 z4 := Tryz.sizeOf4
 v4 := Tryz.zeroValue4
 t5 := Tryz.underlying5
 a5 := Tryz.isAgg5
 z5 := Tryz.sizeOf5
 v5 := Tryz.zeroValue5
 t9 := Tryz.underlying9
 a9 := Tryz.isAgg9
 z9 := Tryz.sizeOf9
 v9 := Tryz.zeroValue9
 t21 := Tryz.underlying21
 a21 := Tryz.isAgg21
 z21 := Tryz.sizeOf21
 v21 := Tryz.zeroValue21
 t31 := Tryz.underlying41
 a31 := Tryz.isAgg41
 z31 := Tryz.sizeOf41
 v31 := Tryz.zeroValue41
 t40 := Tryz.underlying111
 a40 := Tryz.isAgg111
 z40 := Tryz.sizeOf111
 v40 := Tryz.zeroValue111
 t46 := Tryz.underlying132
 a46 := Tryz.isAgg132
 z46 := Tryz.sizeOf132
 v46 := Tryz.zeroValue132
 t49 := Tryz.underlying141
 a49 := Tryz.isAgg141
 z49 := Tryz.sizeOf141
 v49 := Tryz.zeroValue141
 t51 := Tryz.underlying73
 a51 := Tryz.isAgg73
 z51 := Tryz.sizeOf73
 v51 := Tryz.zeroValue73
 t119 := Tryz.underlying109
 a119 := Tryz.isAgg109
 z119 := Tryz.sizeOf109
 t141 := Tryz.underlying127
 a141 := Tryz.isAgg127
 z141 := Tryz.sizeOf127
 v141 := Tryz.zeroValue127
 t152 := Tryz.underlying123
 a152 := Tryz.isAgg123
 z152 := Tryz.sizeOf123
 v152 := Tryz.zeroValue123
 t154 := Tryz.underlying125
 a154 := Tryz.isAgg125
 z154 := Tryz.sizeOf125
 v154 := Tryz.zeroValue125
 t193 := Tryz.underlying137
 a193 := Tryz.isAgg137
 z193 := Tryz.sizeOf137
 v193 := Tryz.zeroValue137
 t194 := Tryz.underlying138
 a194 := Tryz.isAgg138
 z194 := Tryz.sizeOf138
 v194 := Tryz.zeroValue138
 t196 := Tryz.underlying140
 a196 := Tryz.isAgg140
 z196 := Tryz.sizeOf140
 v196 := Tryz.zeroValue140
 t198 := Tryz.underlying143
 a198 := Tryz.isAgg143
 z198 := Tryz.sizeOf143
 v198 := Tryz.zeroValue143
 t201 := Tryz.underlying146
 a201 := Tryz.isAgg146
 z201 := Tryz.sizeOf146
 v201 := Tryz.zeroValue146
 t226 := Tryz.underlying151
 a226 := Tryz.isAgg151
 z226 := Tryz.sizeOf151
 v226 := Tryz.zeroValue151
 t227 := Tryz.underlying152
 a227 := Tryz.isAgg152
 z227 := Tryz.sizeOf152
 v227 := Tryz.zeroValue152
 g0 := by kernel_rfl
 g6 := by kernel_rfl
 i0 := by kernel_rfl
 i3 := by kernel_rfl
 i4 := by kernel_rfl
 i5 := by kernel_rfl
 i9 := by kernel_rfl
 i21 := by kernel_rfl
 i31 := by kernel_rfl
 i40 := by kernel_rfl
 i46 := by kernel_rfl
 i49 := by kernel_rfl
 i51 := by kernel_rfl
 i141 := by kernel_rfl
 i152 := by kernel_rfl
 i154 := by kernel_rfl
 i193 := by kernel_rfl
 i194 := by kernel_rfl
 i196 := by kernel_rfl
 i198 := by kernel_rfl
 i201 := by kernel_rfl
 i226 := by kernel_rfl
 i227 := by kernel_rfl
 m0 := by kernel_rfl
 m6 := by kernel_rfl }
end Go.Proofs
end
section
set_option maxRecDepth 1000000
set_option linter.unusedVariables false
namespace Go.Proofs
end Go.Proofs
namespace Go.Vx
open Go Go.Vx Go.Proofs
theorem alloc_own (w : World) (t : TypeId) (n : Nat) (l : List Value) (hl : l.length = n) (hm : n ≤ maxLen) : (w.alloc (.cells l.toArray t)).ownsRow w.heap.size t 1 (.slice (some ⟨w.heap.size, 0, none⟩) n n) n l := by
 subst hl
 refine ⟨by rw [Nat.mul_one], .inr ⟨w.heap.size, l.length, l.toArray, rfl, Nat.le_refl _, ?_, Nat.le_refl _, hm, by simp, ?_⟩⟩
 ·show (w.heap.push _)[w.heap.size]? = _
  rw [Array.getElem?_push_size]
 ·rw [Nat.mul_one]
  show l.take l.length = l
  exact List.take_length
namespace strings_Fields
def good (s : List UInt8) : Bool := decide (s.length < 4294967281) && s.all (fun b => decide (b.toNat < 128)) && decide ((Lib.fields s).length ≤ 1000000)
def D : Dom := ⟨[], .str⟩
def A : Dom := ⟨[.vec .str 9 false], .sl 0 1⟩
def sel : List Nat := [0]
def f (s : List UInt8) : Option (List (List UInt8)) := if good s = true then some (Lib.fields s) else none
def F (x : D.den) : Option (List (List UInt8)) := f x.2
def pa : D.den → (List (List UInt8)) → A.den := fun (_, _) y1 => ((y1, ()), ())
def con : Con := tcon D A pa F
theorem strs {N : Nat} {β : At} : ∀ (l : List (List UInt8)), VsRel N β (encL .str l) (l.map fun x => Value.string ⟨x.toArray⟩)
 | [] => .nil
 | b :: l => .cons _ _ _ _ (.str _ _ _ (by simp)) (strs l)
theorem tab {β : At} {H : Heap} {w : World} (hR : Rel β H w) : Lib.TabIs Tryz.prog w "strings.asciiSpace" .u8 Lib.asciiSpaceTab := by
 obtain ⟨_, t, m, hw⟩ := hR.tab 0 .u8 Lib.asciiSpaceTab (by unfold globTabs; exact List.mem_of_getElem? (i := 1) (by kernel_rfl))
 unfold Lib.TabIs World.var?
 rw [show Tryz.prog.globalNamed "strings.asciiSpace" = some 0 from by kernel_rfl]
 simp only [Option.bind_some, hw]
theorem ok : ConOk Tryz.prog 77 con := tcon_call fun x y hy => by
 obtain ⟨u, (s : List UInt8)⟩ := x
 intro β w cargs hR ha
 obtain ⟨a, rfl, h1⟩ := one_of (show VsRel _ β [.str true s] cargs.toList from ha)
 obtain ⟨b1, rfl, hb⟩ := str_of h1
 have hF : f s = some y := hy
 unfold f at hF
 split at hF
 ·rename_i hc
  cases hF
  simp only [good, Bool.and_eq_true, decide_eq_true_eq, List.all_eq_true] at hc
  refine (Any.strings_Fields_laid Tryz.lays157 b1 w (by have := hc.1.1; subst hb; simpa using this) (fun j b hj => by rw [hb] at hj; exact hc.1.2 b (List.mem_of_getElem? hj)) (tab hR)).mono ?_
  rintro e w' ⟨rfl, rfl⟩
  rw [hb]
  have hbl : Go.RowKit.Below w.heap.size w (w.alloc (.cells ((Lib.fields s).map fun l => Value.string ⟨l.toArray⟩).toArray (Tryz.lays157_ren.t 9))) := (Go.RowKit.Below.refl _ _).alloc (Nat.le_refl _) _
  have hown : (w.alloc (.cells ((Lib.fields s).map fun l => Value.string ⟨l.toArray⟩).toArray (Tryz.lays157_ren.t 9))).ownsRow w.heap.size (Tryz.lays157_ren.t 9) 1 (.slice (some ⟨w.heap.size, 0, none⟩) (Lib.fields s).length (Lib.fields s).length) (Lib.fields s).length ((Lib.fields s).map fun l => Value.string ⟨l.toArray⟩) :=
   alloc_own w _ _ _ (by simp) (by have := hc.2; unfold maxLen; omega)
  have hl : (encL .str (Lib.fields s)).all AV.cell = true := by
   unfold encL
   simp [List.all_flatMap, enc, AV.cell]
  obtain ⟨C, hC, g1, g2⟩ := rel_own hR hbl hown (e' := 9) rfl (by kernel_rfl) (ob := .vec .str (Lib.fields s) 9 false) rfl (strs (Lib.fields s)) hl
  exact ⟨_, _, rfl, g1, g2, slice_new (Nat.le_refl _) hC⟩
 ·cases hF
end strings_Fields
def bk_strings_Fields : Book := bk_strconv_Itoa.add 77 strings_Fields.con
theorem bk_strings_Fields_ok : BookOk Tryz.prog bk_strings_Fields := bk_strconv_Itoa_ok.add strings_Fields.ok
end Go.Vx
end
section
set_option maxRecDepth 1000000
set_option linter.unusedVariables false
namespace Go.Proofs
theorem alloc_set (w : World) (o o' : Obj) : ({ w.alloc o with heap := (w.alloc o).heap.setIfInBounds w.heap.size o' } : World) = w.alloc o' := by
 have h : (w.heap.push o).setIfInBounds w.heap.size o' = w.heap.push o' := by
  apply Array.toList_inj.1
  rw [Array.toList_setIfInBounds, Array.toList_push, Array.toList_push]
  have : w.heap.size = w.heap.toList.length := by simp
  rw [this, List.set_append_right _ _ (Nat.le_refl _), Nat.sub_self]
  rfl
 show ({ w with heap := (w.heap.push o).setIfInBounds w.heap.size o' } : World) = { w with heap := w.heap.push o' }
 rw [h]
theorem upd_alloc {P : Program} {mty kt et : TypeId} {d : TypeDesc} {es : Array MapEntry} {clock : Nat} {w : World} {key val : Value} (hm : P.underlying mty = some (.map kt et)) (hk : P.underlying kt = some d)
  (hkey : MapKept.IsKey d key) (hf : Instr.findNow d key es.toList 0 = some none) :
  (Instr.mapUpdate mty (.map (some w.heap.size)) key val).run P (w.alloc (.map es clock)) = .ok () (w.alloc (.map (es.push { key := key, val := val, born := clock }) (clock + 1))) := by
 have hb : (w.alloc (.map es clock)).heap[w.heap.size]? = some (.map es clock) := by
  show (w.heap.push (.map es clock))[w.heap.size]? = _
  simp
 have hc : (Instr.checkKey false 10000 kt key).run P (w.alloc (.map es clock)) = .ok () (w.alloc (.map es clock)) := MapKept.run_checkKey hk hkey false 9999
 have hs := MapKept.run_setObj_map (P := P) (.map (es.push { key := key, val := val, born := clock }) (clock + 1)) hb
 rw [alloc_set] at hs
 simp only [Instr.mapUpdate, Sem.run_bind, run_underlying hm, MapKept.run_getObj_map hb, hc, MapKept.run_findKey hk hf, Result.andThen, hs]
theorem wpList_insert {P : Program} {ops : Array Oper} {rest : List Oper} {o : Oper} {a : Act} {w : World} {Q : Exit → Act → World → Prop} {t kt et : TypeId} {d : TypeDesc} {i : Nat} {es : Array MapEntry} {clock : Nat} {kv xv : Value}
  (hu : P.underlying t = some (.map kt et)) (hk : P.underlying kt = some d) (hg : o.guard = none) (hd : o.dst = none) (hop : o.op = .insert t (.tmp i) (.const kv) (.const xv)) (hm : a.eval (.tmp i) = .map (some w.heap.size)) (hkey : MapKept.IsKey d kv) (hf : Instr.findNow d kv es.toList 0 = some none)
  (hK : wpList P ops Q rest a (w.alloc (.map (es.push { key := kv, val := xv, born := clock }) (clock + 1)))) : wpList P ops Q (o :: rest) a (w.alloc (.map es clock)) := by
 refine wpList_plain hg fun K' hK' => ?_
 unfold Oper.wp
 have hrun := upd_alloc (P := P) (mty := t) (clock := clock) (w := w) (val := xv) hu hk hkey hf
 simp only [execOp, hop, Sem.run_bind, hm, show a.eval (.const kv) = kv from rfl, show a.eval (.const xv) = xv from rfl, hrun, Result.andThen_ok, Sem.run_pure]
 first
  | rw [Oper.upon_skip, hd]; exact hK' _ _ hK
  | rw [Oper.upon_value, hd]; exact hK' _ _ hK
theorem uM : Tryz.prog.underlying 61 = some (.map 3 9) := by kernel_rfl
theorem u3 : Tryz.prog.underlying 3 = some (.int .i64) := by kernel_rfl
theorem isKey (n : Int) : MapKept.IsKey (.int .i64) (.int .i64 n) := by simp [MapKept.IsKey]
def tabR : List (Int × ByteArray) := [(200, ⟨#[79, 75]⟩), (204, ⟨#[78, 111, 32, 67, 111, 110, 116, 101, 110, 116]⟩), (301, ⟨#[77, 111, 118, 101, 100, 32, 80, 101, 114, 109, 97, 110, 101, 110, 116, 108, 121]⟩), (302, ⟨#[70, 111, 117, 110, 100]⟩), (307, ⟨#[84, 101, 109, 112, 111, 114, 97, 114, 121, 32, 82, 101, 100, 105, 114, 101, 99, 116]⟩), (308, ⟨#[80, 101, 114, 109, 97, 110, 101, 110, 116, 32, 82, 101, 100, 105, 114, 101, 99, 116]⟩), (400, ⟨#[66, 97, 100, 32, 82, 101, 113, 117, 101, 115, 116]⟩), (401, ⟨#[85, 110, 97, 117, 116, 104, 111, 114, 105, 122, 101, 100]⟩), (403, ⟨#[70, 111, 114, 98, 105, 100, 100, 101, 110]⟩), (404, ⟨#[78, 111, 116, 32, 70, 111, 117, 110, 100]⟩), (405, ⟨#[77, 101, 116, 104, 111, 100, 32, 78, 111, 116, 32, 65, 108, 108, 111, 119, 101, 100]⟩), (413, ⟨#[67, 111, 110, 116, 101, 110, 116, 32, 84, 111, 111, 32, 76, 97, 114, 103, 101]⟩), (414, ⟨#[85, 82, 73, 32, 84, 111, 111, 32, 76, 111, 110, 103]⟩), (429, ⟨#[84, 111, 111, 32, 77, 97, 110, 121, 32, 82, 101, 113, 117, 101, 115, 116, 115]⟩), (431, ⟨#[82, 101, 113, 117, 101, 115, 116, 32, 72, 101, 97, 100, 101, 114, 32, 70, 105, 101, 108, 100, 115, 32, 84, 111, 111, 32, 76, 97, 114, 103, 101]⟩), (501, ⟨#[78, 111, 116, 32, 73, 109, 112, 108, 101, 109, 101, 110, 116, 101, 100]⟩), (503, ⟨#[83, 101, 114, 118, 105, 99, 101, 32, 85, 110, 97, 118, 97, 105, 108, 97, 98, 108, 101]⟩), (505, ⟨#[72, 84, 84, 80, 32, 86, 101, 114, 115, 105, 111, 110, 32, 78, 111, 116, 32, 83, 117, 112, 112, 111, 114, 116, 101, 100]⟩)]
def entR : List (Int × ByteArray) → Nat → List MapEntry
 | [], _ => []
 | p :: l, i => { key := .int .i64 p.1, val := .string p.2, born := i } :: entR l (i + 1)
def getR : List (Int × ByteArray) → Int → Option ByteArray
 | [], _ => none
 | p :: l, n => if n = p.1 then some p.2 else getR l n
theorem find_tab (n : Int) : ∀ (l : List (Int × ByteArray)) (i j : Nat), (getR l n = none ∧ Instr.findNow (.int .i64) (.int .i64 n) (entR l i) j = some none) ∨ ∃ s k, getR l n = some s ∧ Instr.findNow (.int .i64) (.int .i64 n) (entR l i) j = some (some (k, .string s))
 | [], i, j => .inl ⟨rfl, rfl⟩
 | p :: l, i, j => by
  unfold getR entR Instr.findNow
  by_cases h : n = p.1
  ·right
   simp [Instr.sameNow, h]
  ·simp only [Instr.sameNow, if_true, if_neg h, show (n == p.1) = false by simpa using h]
   exact find_tab n l (i + 1) (j + 1)
theorem zeroStr (w : World) : (zeroValue 9).run Tryz.prog w = .ok (.string ⟨#[]⟩) w := by
 have h : (Tryz.prog.info? 9).map (·.zero) = some (some (.string ⟨#[]⟩)) := by kernel_rfl
 cases hi : Tryz.prog.info? 9 with
 | none => rw [hi] at h; cases h
 | some j =>
  rw [hi] at h
  simp only [Option.map_some, Option.some.injEq] at h
  simp [zeroValue, typeInfo, hi, h]
theorem look_tab (w : World) (b : Nat) (n : Int) (l : List (Int × ByteArray)) (c : Nat) (hb : w.heap[b]? = some (.map (entR l 0).toArray c)) :
  (Instr.lookup 61 (.map (some b)) (.int .i64 n) true).run Tryz.prog w = .ok (.tuple #[.string ((getR l n).getD ⟨#[]⟩), .bool (getR l n).isSome]) w := by
 have hc : (Instr.checkKey (entR l 0).toArray.isEmpty 10000 3 (.int .i64 n)).run Tryz.prog w = .ok () w := MapKept.run_checkKey u3 (isKey n) _ 9999
 rcases find_tab n l 0 0 with ⟨h1, h2⟩ | ⟨s, k, h1, h2⟩
 ·have hf := MapKept.run_findKey (P := Tryz.prog) (w := w) (l := entR l 0) u3 h2
  simp only [Instr.lookup, Sem.run_bind, run_underlying uM, Result.andThen_ok, MapKept.run_getObj_map hb, Sem.run_pure, hc, hf, zeroStr, h1]
  rfl
 ·have hf := MapKept.run_findKey (P := Tryz.prog) (w := w) (l := entR l 0) u3 h2
  simp only [Instr.lookup, Sem.run_bind, run_underlying uM, Result.andThen_ok, MapKept.run_getObj_map hb, Sem.run_pure, hc, hf, h1]
  rfl
set_option maxHeartbeats 4000000 in
theorem Tryz.reason (n : Int) (w : World) : Calls Tryz.prog 16 #[.int .i64 n] w fun e w' => e = .returned (.string ((getR tabR n).getD ⟨#[79, 116, 104, 101, 114]⟩)) ∧ w' = w.alloc (.map (entR tabR 0).toArray 18) := by
 go_enter Tryz.func16, Tryz.ntmps16
 go_wp2
 rw [run_makeMap_plain]
 simp only [Result.andThen]
 rw [Oper.upon_value]
 rename_i K1 h1 K2 h2
 refine h2 _ _ ?_
 iterate 18 refine wpList_insert uM u3 rfl rfl rfl rfl (isKey _) (by kernel_rfl) ?_
 clear h2
 go_wp2
 change Oper.upon _ _ _ _ _ ((Sem.run _ _ (w.alloc (.map (entR tabR 0).toArray 18))).andThen _)
 rw [look_tab _ _ n tabR 18 (by show (w.heap.push _)[w.heap.size]? = _; simp)]
 generalize hg : getR tabR n = g
 generalize hw1 : w.alloc (.map (entR tabR 0).toArray 18) = w1
 simp only [Result.andThen]
 rw [Oper.upon_value]
 rename_i K1 h1 K2 h2
 refine h2 _ _ ?_
 clear h2
 cases g with
 | none =>
  go_wp2
  go_ret
  exact ⟨by rw [hg]; rfl, hw1.symm⟩
 | some s =>
  go_wp2
  go_ret
  exact ⟨by rw [hg]; rfl, hw1.symm⟩
end Go.Proofs
namespace Go.Vx
open Go Go.Vx Go.Proofs
namespace reply_Reason
def D : Dom := ⟨[], .int .i64⟩
def A : Dom := ⟨[], .str⟩
def sel : List Nat := [0]
def f (n : Int) : Option (List UInt8) := some ((getR tabR n).getD ⟨#[79, 116, 104, 101, 114]⟩).data.toList
def F (x : D.den) : Option (List UInt8) := f x.2
def pa : D.den → (List UInt8) → A.den := fun (_, _) y1 => ((), y1)
def con : Con := tcon D A pa F
theorem ok : ConOk Tryz.prog 16 con := tcon_call fun x y hy => by
 obtain ⟨u, n⟩ := x
 intro β w cargs hR ha
 obtain ⟨a, rfl, h1⟩ := one_of (show VsRel _ β [.int true .i64 n] cargs.toList from ha)
 rw [int_of h1]
 have hF : f n = some y := hy
 unfold f at hF
 cases hF
 refine (Go.Proofs.Tryz.reason n w).mono ?_
 rintro e w' ⟨rfl, rfl⟩
 obtain ⟨g1, g2⟩ := rel_below hR ((Go.RowKit.Below.refl _ w).alloc (Nat.le_refl _) _)
 exact ⟨β, _, rfl, g1, g2, .str _ _ _ rfl⟩
end reply_Reason
def bk_reply_Reason : Book := bk_strings_Fields.add 16 reply_Reason.con
theorem bk_reply_Reason_ok : BookOk Tryz.prog bk_reply_Reason := bk_strings_Fields_ok.add reply_Reason.ok
end Go.Vx
end
section
set_option maxRecDepth 1000000
set_option linter.unusedVariables false
namespace Go.Proofs
open Go.RowKit Go.Lib
set_option maxHeartbeats 4000000 in
theorem Tryz.clone (ad : Addr) (n c : Nat) (news : List Value) (w : World) (hl : news.length = n * 2) (hn : n ≤ maxLen) (hbig : n * 32 ≤ 140737488355328)
  (hc : ∀ j u, news[j]? = some u → w.cell? (ad.add j) = some u) (h1 : ∀ u ∈ news, u.oneCell' = true) :
  Calls Tryz.prog 75 #[.slice (some ad) n c] w fun e w' => ∃ v', e = .returned v' ∧ w'.ownsRow w.heap.size 30 2 v' n news ∧ Below w.heap.size w w' := by
 have t22 : Tryz.prog.underlying 22 = some (.slice 30) := by kernel_rfl
 have hfacts : (Tryz.prog.info? 30).map (fun i => (i.zero, i.size, i.bytes)) = some (some (.agg #[.string ⟨#[]⟩, .string ⟨#[]⟩]), 2, 32) := by kernel_rfl
 cases hi : Tryz.prog.info? 30 with
 | none => rw [hi] at hfacts; cases hfacts
 | some i0 =>
  rw [hi] at hfacts
  simp only [Option.map_some, Option.some.injEq, Prod.mk.injEq] at hfacts
  obtain ⟨hz0, hz1, hz2⟩ := hfacts
  have z23 : ∀ w, (Go.sizeOf 30).run Tryz.prog w = .ok 2 w := fun w => by simp [Go.sizeOf, typeInfo, hi, hz1]
  have q22 : ∀ (w : World) (a : Option Addr) (n c n' c' : Nat), (binOp .eql 22 (.slice a n c) (.slice none n' c')).run Tryz.prog w = .ok (.bool a.isNone) w := fun w a n c n' c' => Lib.run_eql_slice_nil w _ _ a n c n' c' t22
  have u22 : ∀ w, Sem.run Tryz.prog (underlying 22) w = .ok (TypeDesc.slice 30) w := run_underlying t22
  have A : Aside (∀ j u, news[j]? = some u → w.cell? (ad.add j) = some u) := hc
  clear hc
  go_enter Tryz.func75, Tryz.ntmps75
  go_wp2_with (at_builtin; refine wpList_append_own _ rfl _ _ 22 rfl w.heap.size 30 i0 (.agg #[.string ⟨#[]⟩, .string ⟨#[]⟩]) 2 32 t22 hi hz0 hz1 hz2 (by rfl) (by decide) _ _ _ rfl (World.ownsRow_made w #[] 0 (Nat.le_refl _) (Nat.zero_le _) (by simp)) ad n c news rfl ?qc1 ?qc2 ?qc3 ?qc4 ?qc5 ?qc6 ?_)
  case qc1 => exact hl
  case qc2 =>
   intro j u hj
   exact Lib.cell?_alloc_some _ (A.out j u hj)
  case qc3 => exact h1
  case qc4 => rw [Nat.zero_add]; exact hn
  case qc5 => rw [Nat.zero_add]; exact hbig
  case qc6 => simp
  intro v' w1 hown hgrow hnil
  go_wp2
  go_ret
  refine ⟨v', rfl, by simpa using hown, ?_⟩
  exact ((Below.refl _ w).alloc (Nat.le_refl _) _).grown hgrow (by simp) (by intro k hk; simp [Value.ownBlock] at hk; omega)
set_option maxHeartbeats 4000000 in
theorem Tryz.clone_nil (n c : Nat) (w : World) : Calls Tryz.prog 75 #[.slice none n c] w fun e w' => e = .returned (.slice none 0 0) ∧ w' = w := by
 have t22 : Tryz.prog.underlying 22 = some (.slice 30) := by kernel_rfl
 have q22 : ∀ (w : World) (a : Option Addr) (n c n' c' : Nat), (binOp .eql 22 (.slice a n c) (.slice none n' c')).run Tryz.prog w = .ok (.bool a.isNone) w := fun w a n c n' c' => Lib.run_eql_slice_nil w _ _ a n c n' c' t22
 go_enter Tryz.func75, Tryz.ntmps75
 go_wp2
 go_ret
 exact ⟨rfl, rfl⟩
end Go.Proofs
namespace Go.Vx
open Go Go.Vx Go.Proofs
namespace slices_Clone
def D : Dom := ⟨[.vec (.pair .str .str) 30 true], (.sl 0 2)⟩
def A : Dom := ⟨[.vec (.pair .str .str) 30 true, .vec (.pair .str .str) 30 false], (.sl 1 2)⟩
def sel : List Nat := [0]
def f (l : List (List UInt8 × List UInt8)) : Option (List (List UInt8 × List UInt8)) := if l.length * 32 ≤ 140737488355328 then some l else none
def F (x : D.den) : Option (List (List UInt8 × List UInt8)) := f x.1.1
def pa : D.den → (List (List UInt8 × List UInt8)) → A.den := fun ((l, _), _) y1 => ((l, (y1, ())), ())
def con : Con := tcon D A pa F
theorem ok : ConOk Tryz.prog 75 con := tcon_call fun x y hy => by
 obtain ⟨⟨l, u⟩, v⟩ := x
 intro β w cargs hR ha
 obtain ⟨a, rfl, h1⟩ := one_of (show VsRel _ β [.slice true (some ⟨0, 0, 2, 0⟩) l.length 2] cargs.toList from ha)
 have hF : f l = some y := hy
 unfold f at hF
 split at hF
 ·rename_i hbig
  have hF := Option.some.inj hF
  subst hF
  have hrow : (D.heap ((l, u), v)).row 0 = some (encL (.pair .str .str) l, 30, true) := rfl
  have hat : rowAt (D.heap ((l, u), v)) ⟨0, 0, 2, 0⟩ (l.length * 2) = some (encL (.pair .str .str) l) := by
   have hlen : (encL (.pair .str .str) l).length = l.length * 2 := encL_length _ _
   unfold rowAt
   rw [hrow]
   simp [Ref.i, hlen]
   rw [← hlen, List.take_length]
  obtain ⟨b, cs0, e0, ro, hbg, hget, hl, hle1, hll, vs, hvl, hvc, hvr⟩ := row_read hR hat
  have hcell : (encL (.pair .str .str) l).all AV.cell = true := encL_all _ _
  cases h1 with
  | slice _ _ _ _ cap a0 hg hle hsm hb =>
   obtain ⟨s1, s2⟩ := hb b hbg
   cases a0 with
   | none =>
    have hc0 := hsm rfl
    have hl0 : l.length = 0 := by omega
    have hle0 : l = [] := List.eq_nil_of_length_eq_zero hl0
    subst hle0
    refine (Tryz.clone_nil 0 cap w).mono ?_
    rintro e w' ⟨rfl, rfl⟩
    obtain ⟨bb, g1, g2, g3⟩ := rel_own2 hR (Go.RowKit.Below.refl _ _) (e := 30) (n := 0) (sz := 2) (xs := []) (v' := .slice none 0 0) ⟨by simp, .inl ⟨rfl, rfl⟩⟩ (by kernel_rfl) (cs := []) (ob := .vec (.pair .str .str) [] 30 false) rfl .nil rfl true
    exact ⟨_, _, rfl, g1, g2, g3⟩
   | some ad =>
    have hc : ∀ j uu, vs[j]? = some uu → w.cell? (ad.add j) = some uu := fun j uu hj => by
     have hjl : j < vs.length := (List.getElem?_eq_some_iff.1 hj).1
     cases hbn : b.nil with
     | true =>
      have hl0 : l.length = 0 := (s1 hbn).1
      rw [hvl, hl0] at hjl
      simp at hjl
     | false =>
      have hcap : 0 < cap := by
       rcases Nat.eq_zero_or_pos cap with h0 | h0
       ·exfalso
        have h1 : l.length = 0 := by omega
        rw [hvl, h1] at hjl
        simp at hjl
       ·exact h0
      have := (s2 hbn).1 hcap
      cases this
      exact hvc j uu hj
    refine (Tryz.clone ad l.length cap vs w (by rw [hvl]) (by unfold maxLen; omega) hbig hc (one_of_plain hvr hcell)).mono ?_
    rintro e w' ⟨v', rfl, hown, hbl⟩
    obtain ⟨bb, g1, g2, g3⟩ := rel_own2 hR hbl hown (by kernel_rfl) (cs := encL (.pair .str .str) l) (ob := .vec (.pair .str .str) l 30 false) rfl hvr hcell true
    exact ⟨_, _, rfl, g1, g2, g3⟩
 ·cases hF
end slices_Clone
def bk_slices_Clone : Book := bk_reply_Reason.add 75 slices_Clone.con
theorem bk_slices_Clone_ok : BookOk Tryz.prog bk_slices_Clone := bk_reply_Reason_ok.add slices_Clone.ok
end Go.Vx
end
section
set_option maxRecDepth 1000000
set_option maxHeartbeats 4000000
set_option synthInstance.maxSize 100000
set_option synthInstance.maxHeartbeats 400000
set_option linter.unusedVariables false
namespace Go.Vx
open Go Go.Vx Go.Proofs
namespace internal_stringslite_Index_sx3a
def D : Dom := ⟨[], (.cat .str (.lit (.str false [58])))⟩
def A : Dom := ⟨[], (.int .i64)⟩
def sel : List Nat := [0]
def t (s : List UInt8) : Tr (Int) :=
 .br ([(58 : UInt8)] == s) (.ret (0 : Int))
 (.call (slite_IndexByte.f s (58 : Int)) fun y1 =>
  .ret y1)
def f (s : List UInt8) : Option (Int) := (t s).val
def F (x : D.den) : Option (Int) := f x.2.1
def pa : D.den → (Int) → A.den := fun (_, (_, _)) y1 => ((), y1)
def con : Con := tcon D A pa F
theorem ok : ConOk Tryz.prog 104 con := tcon_ok Base.mixed Base.prog_ok bk_slices_Clone_ok (by kernel_rfl) LapsOk.nil 9 (fun _ => rfl) (fun x => t x.2.1) (fun _ => rfl) fun _ _ _ => (by kernel_rfl)
end internal_stringslite_Index_sx3a
def bk_internal_stringslite_Index_sx3a : Book := bk_slices_Clone.addS 104 (fun a => isStr 1 [58] a) internal_stringslite_Index_sx3a.con
theorem bk_internal_stringslite_Index_sx3a_ok : BookOk Tryz.prog bk_internal_stringslite_Index_sx3a := bk_slices_Clone_ok.addS internal_stringslite_Index_sx3a.ok
namespace internal_stringslite_Cut_sx3a
def D : Dom := ⟨[], (.cat .str (.lit (.str false [58])))⟩
def A : Dom := ⟨[], (.tup (.cat .str (.cat .str .bool)))⟩
def sel : List Nat := [0]
def t (s : List UInt8) : Tr (List UInt8 × List UInt8 × Bool) :=
 .call (internal_stringslite_Index_sx3a.f s) fun y1 =>
 .br (decide (y1 ≥ (0 : Int))) (.chk ((0 : Int) ≤ (0 : Int) ∧ (0 : Int) ≤ y1 ∧ y1 ≤ (↑s.length : Int)) <| .chk ((0 : Int) ≤ IntKind.i64.wrap (y1 + (1 : Int)) ∧ IntKind.i64.wrap (y1 + (1 : Int)) ≤ (↑s.length : Int) ∧ (↑s.length : Int) ≤ (↑s.length : Int)) <| .ret (List.drop (↑(0 : Nat) : Int).toNat (List.take y1.toNat s), List.drop (IntKind.i64.wrap (y1 + (1 : Int))).toNat (List.take (↑s.length : Int).toNat s), true))
 (.ret (s, [], false))
def f (s : List UInt8) : Option (List UInt8 × List UInt8 × Bool) := (t s).val
def F (x : D.den) : Option (List UInt8 × List UInt8 × Bool) := f x.2.1
def pa : D.den → (List UInt8 × List UInt8 × Bool) → A.den := fun (_, (_, _)) (y1, y2, y3) => ((), (y1, (y2, y3)))
def con : Con := tcon D A pa F
theorem ok : ConOk Tryz.prog 81 con := tcon_ok Base.mixed Base.prog_ok bk_internal_stringslite_Index_sx3a_ok (by kernel_rfl) LapsOk.nil 9 (fun _ => rfl) (fun x => t x.2.1) (fun _ => rfl) fun _ _ _ => (by kernel_rfl)
end internal_stringslite_Cut_sx3a
def bk_internal_stringslite_Cut_sx3a : Book := bk_internal_stringslite_Index_sx3a.addS 81 (fun a => isStr 1 [58] a) internal_stringslite_Cut_sx3a.con
theorem bk_internal_stringslite_Cut_sx3a_ok : BookOk Tryz.prog bk_internal_stringslite_Cut_sx3a := bk_internal_stringslite_Index_sx3a_ok.addS internal_stringslite_Cut_sx3a.ok
namespace strings_Cut_sx3a
def D : Dom := ⟨[], (.cat .str (.lit (.str false [58])))⟩
def A : Dom := ⟨[], (.tup (.cat .str (.cat .str .bool)))⟩
def sel : List Nat := [0]
def t (s : List UInt8) : Tr (List UInt8 × List UInt8 × Bool) :=
 .call (internal_stringslite_Cut_sx3a.f s) fun (y1a, y1b, y1c) =>
 .ret (y1a, y1b, y1c)
def f (s : List UInt8) : Option (List UInt8 × List UInt8 × Bool) := (t s).val
def F (x : D.den) : Option (List UInt8 × List UInt8 × Bool) := f x.2.1
def pa : D.den → (List UInt8 × List UInt8 × Bool) → A.den := fun (_, (_, _)) (y1, y2, y3) => ((), (y1, (y2, y3)))
def con : Con := tcon D A pa F
theorem ok : ConOk Tryz.prog 67 con := tcon_ok Base.mixed Base.prog_ok bk_internal_stringslite_Cut_sx3a_ok (by kernel_rfl) LapsOk.nil 9 (fun _ => rfl) (fun x => t x.2.1) (fun _ => rfl) fun _ _ _ => (by kernel_rfl)
end strings_Cut_sx3a
def bk_strings_Cut_sx3a : Book := bk_internal_stringslite_Cut_sx3a.addS 67 (fun a => isStr 1 [58] a) strings_Cut_sx3a.con
theorem bk_strings_Cut_sx3a_ok : BookOk Tryz.prog bk_strings_Cut_sx3a := bk_internal_stringslite_Cut_sx3a_ok.addS strings_Cut_sx3a.ok
namespace field_out
def D : Dom := ⟨[], (.cat (.int .u32) (.int .i64))⟩
def A : Dom := ⟨[], (.tup (.cat (.agg (.cat .str .str)) (.cat .bool (.int .i64))))⟩
def sel : List Nat := [0, 1]
def t (p : Int) (clause : Int) : Tr (List UInt8 × List UInt8 × Bool × Int) :=
 .br (decide (clause ≥ (0 : Int))) (.br (decide (clause < (30 : Int))) (.chk (¬clause < (0 : Int)) <| .br (IntKind.u32.wrap (↑(BitVec.ofInt IntKind.u32.bits (p.fdiv ((2 : Int) ^ min clause.toNat IntKind.u32.bits)) &&& BitVec.ofInt IntKind.u32.bits (1 : Int)).toNat : Int) == (1 : Int)) (.ret ([], [], false, (0 : Int)))
  (.ret ([], [], false, (400 : Int))))
  (.ret ([], [], false, (400 : Int))))
 (.ret ([], [], false, (400 : Int)))
def f (p : Int) (clause : Int) : Option (List UInt8 × List UInt8 × Bool × Int) := (t p clause).val
def F (x : D.den) : Option (List UInt8 × List UInt8 × Bool × Int) := f x.2.1 x.2.2
def pa : D.den → (List UInt8 × List UInt8 × Bool × Int) → A.den := fun (_, (_, _)) (y1, y2, y3, y4) => ((), ((y1, y2), (y3, y4)))
def con : Con := tcon D A pa F
theorem ok : ConOk Tryz.prog 68 con := tcon_ok Base.mixed Base.prog_ok bk_strings_Cut_sx3a_ok (by kernel_rfl) LapsOk.nil 9 (fun _ => rfl) (fun x => t x.2.1 x.2.2) (fun _ => rfl) fun _ _ _ => (by kernel_rfl)
end field_out
def bk_field_out : Book := bk_strings_Cut_sx3a.add 68 field_out.con
theorem bk_field_out_ok : BookOk Tryz.prog bk_field_out := bk_strings_Cut_sx3a_ok.add field_out.ok
namespace octet_Blank
def D : Dom := ⟨[], (.int .u8)⟩
def A : Dom := ⟨[], .bool⟩
def sel : List Nat := [0]
def t (c : Int) : Tr (Bool) :=
 .br (c == (32 : Int)) (.ret true)
 (.ret (c == (9 : Int)))
def f (c : Int) : Option (Bool) := (t c).val
def F (x : D.den) : Option (Bool) := f x.2
def pa : D.den → (Bool) → A.den := fun (_, _) y1 => ((), y1)
def con : Con := tcon D A pa F
theorem ok : ConOk Tryz.prog 88 con := tcon_ok Base.mixed Base.prog_ok bk_field_out_ok (by kernel_rfl) LapsOk.nil 9 (fun _ => rfl) (fun x => t x.2) (fun _ => rfl) fun _ _ _ => (by kernel_rfl)
end octet_Blank
def bk_octet_Blank : Book := bk_field_out.add 88 octet_Blank.con
theorem bk_octet_Blank_ok : BookOk Tryz.prog bk_octet_Blank := bk_field_out_ok.add octet_Blank.ok
namespace text_trimmed_f_octet_Blank
def D : Dom := ⟨[], (.cat .str (.lit (.func (.func 88) [] [])))⟩
namespace L1
def D : Dom := ⟨[], (.cat .str (.lit (.func (.func 88) [] [])))⟩
def A : Dom := ⟨[], (.cat .str (.lit (.func (.func 88) [] [])))⟩
def sel : List Nat := [0]
def t (s : List UInt8) : Tr ((List UInt8) ⊕ (List UInt8)) :=
 .br (!s == []) (.chk ((0 : Int) ≤ (0 : Int) ∧ (0 : Int) < (↑s.length : Int)) <| .call (octet_Blank.f (↑(s.getD (Int.toNat (0 : Int)) (0 : UInt8)).toNat : Int)) fun y1 =>
  .br y1 (.chk ((0 : Int) ≤ (1 : Int) ∧ (1 : Int) ≤ (↑s.length : Int) ∧ (↑s.length : Int) ≤ (↑s.length : Int)) <| .ret (.inl (List.drop (Int.toNat (1 : Int)) (List.take (↑s.length : Int).toNat s))))
  (.ret (.inr s)))
 (.ret (.inr s))
def f (s : List UInt8) : Option (List UInt8) := Loop (fun z : List UInt8 => t z) s
def F (x : D.den) : Option (List UInt8) := f x.2.1
def pa : D.den → (List UInt8) → A.den := fun (_, (_, _)) y1 => ((), (y1, ()))
def lap : Lap := tlap 1 32 [0, 1] D (.exit 0) [0, 1] A pa F
def pk (x : D.den) (z : List UInt8) : D.den := ((), (z, ()))
def un (x : D.den) : List UInt8 := x.2.1
def body (x : D.den) (z : List UInt8) : Tr ((List UInt8) ⊕ (List UInt8)) := t z
theorem ok : LapOk Tryz.prog 0 (codeOf Tryz.prog 87) lap := tlap_ok Base.mixed Base.prog_ok bk_octet_Blank_ok (by kernel_rfl) (by kernel_rfl) LapsOk.nil 9 pk un body (fun _ _ => rfl) (fun _ _ => rfl) (fun _ _ => rfl) (fun _ => rfl) fun _ _ _ _ => (by kernel_rfl)
end L1
namespace L3
def D : Dom := ⟨[], (.cat .str (.lit (.func (.func 88) [] [])))⟩
def A : Dom := ⟨[], .str⟩
def sel : List Nat := [0]
def t (s : List UInt8) : Tr ((List UInt8) ⊕ (List UInt8)) :=
 .br (!s == []) (.chk ((0 : Int) ≤ IntKind.i64.wrap ((↑s.length : Int) - (1 : Int)) ∧ IntKind.i64.wrap ((↑s.length : Int) - (1 : Int)) < (↑s.length : Int)) <| .call (octet_Blank.f (↑(s.getD (IntKind.i64.wrap ((↑s.length : Int) - (1 : Int))).toNat (0 : UInt8)).toNat : Int)) fun y1 =>
  .br y1 (.chk ((0 : Int) ≤ (0 : Int) ∧ (0 : Int) ≤ IntKind.i64.wrap ((↑s.length : Int) - (1 : Int)) ∧ IntKind.i64.wrap ((↑s.length : Int) - (1 : Int)) ≤ (↑s.length : Int)) <| .ret (.inl (List.drop (↑(0 : Nat) : Int).toNat (List.take (IntKind.i64.wrap ((↑s.length : Int) - (1 : Int))).toNat s))))
  (.ret (.inr s)))
 (.ret (.inr s))
def f (s : List UInt8) : Option (List UInt8) := Loop (fun z : List UInt8 => t z) s
def F (x : D.den) : Option (List UInt8) := f x.2.1
def pa : D.den → (List UInt8) → A.den := fun (_, (_, _)) y1 => ((), y1)
def lap : Lap := tlap 3 32 [0, 1] D (.exit 2) [0] A pa F
def pk (x : D.den) (z : List UInt8) : D.den := ((), (z, ()))
def un (x : D.den) : List UInt8 := x.2.1
def body (x : D.den) (z : List UInt8) : Tr ((List UInt8) ⊕ (List UInt8)) := t z
theorem ok : LapOk Tryz.prog 0 (codeOf Tryz.prog 87) lap := tlap_ok Base.mixed Base.prog_ok bk_octet_Blank_ok (by kernel_rfl) (by kernel_rfl) LapsOk.nil 9 pk un body (fun _ _ => rfl) (fun _ _ => rfl) (fun _ _ => rfl) (fun _ => rfl) fun _ _ _ _ => (by kernel_rfl)
end L3
def A : Dom := ⟨[], .str⟩
def sel : List Nat := [0]
def t (s : List UInt8) : Tr (List UInt8) :=
 .call (text_trimmed_f_octet_Blank.L1.f s) fun y1 =>
 .call (text_trimmed_f_octet_Blank.L3.f y1) fun y2 =>
 .ret y2
def f (s : List UInt8) : Option (List UInt8) := (t s).val
def F (x : D.den) : Option (List UInt8) := f x.2.1
def pa : D.den → (List UInt8) → A.den := fun (_, (_, _)) y1 => ((), y1)
def con : Con := tcon D A pa F
theorem ok : ConOk Tryz.prog 87 con := tcon_ok Base.mixed Base.prog_ok bk_octet_Blank_ok (by kernel_rfl) (.cons L1.ok (by kernel_rfl) (.cons L3.ok (by kernel_rfl) (.nil))) 9 (fun _ => rfl) (fun x => t x.2.1) (fun _ => rfl) fun _ _ _ => (by kernel_rfl)
end text_trimmed_f_octet_Blank
def bk_text_trimmed_f_octet_Blank : Book := bk_octet_Blank.addS 87 (fun a => isFunc 1 88 a) text_trimmed_f_octet_Blank.con
theorem bk_text_trimmed_f_octet_Blank_ok : BookOk Tryz.prog bk_text_trimmed_f_octet_Blank := bk_octet_Blank_ok.addS text_trimmed_f_octet_Blank.ok
namespace text_Trim
def D : Dom := ⟨[], .str⟩
def A : Dom := ⟨[], .str⟩
def sel : List Nat := [0]
def t (s : List UInt8) : Tr (List UInt8) :=
 .call (text_trimmed_f_octet_Blank.f s) fun y1 =>
 .ret y1
def f (s : List UInt8) : Option (List UInt8) := (t s).val
def F (x : D.den) : Option (List UInt8) := f x.2
def pa : D.den → (List UInt8) → A.den := fun (_, _) y1 => ((), y1)
def con : Con := tcon D A pa F
theorem ok : ConOk Tryz.prog 71 con := tcon_ok Base.mixed Base.prog_ok bk_text_trimmed_f_octet_Blank_ok (by kernel_rfl) LapsOk.nil 9 (fun _ => rfl) (fun x => t x.2) (fun _ => rfl) fun _ _ _ => (by kernel_rfl)
end text_Trim
def bk_text_Trim : Book := bk_text_trimmed_f_octet_Blank.add 71 text_Trim.con
theorem bk_text_Trim_ok : BookOk Tryz.prog bk_text_Trim := bk_text_trimmed_f_octet_Blank_ok.add text_Trim.ok
namespace octet_letter
def D : Dom := ⟨[], (.int .u8)⟩
def A : Dom := ⟨[], .bool⟩
def sel : List Nat := [0]
def t (c : Int) : Tr (Bool) :=
 .br (decide (IntKind.u8.wrap (↑(BitVec.ofInt IntKind.u8.bits c ||| BitVec.ofInt IntKind.u8.bits (32 : Int)).toNat : Int) ≥ (97 : Int))) (.ret (decide (IntKind.u8.wrap (↑(BitVec.ofInt IntKind.u8.bits c ||| BitVec.ofInt IntKind.u8.bits (32 : Int)).toNat : Int) ≤ (122 : Int))))
 (.ret false)
def f (c : Int) : Option (Bool) := (t c).val
def F (x : D.den) : Option (Bool) := f x.2
def pa : D.den → (Bool) → A.den := fun (_, _) y1 => ((), y1)
def con : Con := tcon D A pa F
theorem ok : ConOk Tryz.prog 130 con := tcon_ok Base.mixed Base.prog_ok bk_text_Trim_ok (by kernel_rfl) LapsOk.nil 9 (fun _ => rfl) (fun x => t x.2) (fun _ => rfl) fun _ _ _ => (by kernel_rfl)
end octet_letter
def bk_octet_letter : Book := bk_text_Trim.add 130 octet_letter.con
theorem bk_octet_letter_ok : BookOk Tryz.prog bk_octet_letter := bk_text_Trim_ok.add octet_letter.ok
namespace octet_Digit
def D : Dom := ⟨[], (.int .u8)⟩
def A : Dom := ⟨[], .bool⟩
def sel : List Nat := [0]
def t (c : Int) : Tr (Bool) :=
 .br (decide (c ≥ (48 : Int))) (.ret (decide (c ≤ (57 : Int))))
 (.ret false)
def f (c : Int) : Option (Bool) := (t c).val
def F (x : D.den) : Option (Bool) := f x.2
def pa : D.den → (Bool) → A.den := fun (_, _) y1 => ((), y1)
def con : Con := tcon D A pa F
theorem ok : ConOk Tryz.prog 110 con := tcon_ok Base.mixed Base.prog_ok bk_octet_letter_ok (by kernel_rfl) LapsOk.nil 9 (fun _ => rfl) (fun x => t x.2) (fun _ => rfl) fun _ _ _ => (by kernel_rfl)
end octet_Digit
def bk_octet_Digit : Book := bk_octet_letter.add 110 octet_Digit.con
theorem bk_octet_Digit_ok : BookOk Tryz.prog bk_octet_Digit := bk_octet_letter_ok.add octet_Digit.ok
namespace strings_IndexByte_sx21x23x24x25x26x27x2z15
def D : Dom := ⟨[], (.cat (.lit (.str false [33, 35, 36, 37, 38, 39, 42, 43, 45, 46, 94, 95, 96, 124, 126])) (.int .u8))⟩
def A : Dom := ⟨[], (.int .i64)⟩
def sel : List Nat := [0]
def t (c : Int) : Tr (Int) :=
 .call (slite_IndexByte.f [(33 : UInt8), (35 : UInt8), (36 : UInt8), (37 : UInt8), (38 : UInt8), (39 : UInt8), (42 : UInt8), (43 : UInt8), (45 : UInt8), (46 : UInt8), (94 : UInt8), (95 : UInt8), (96 : UInt8), (124 : UInt8), (126 : UInt8)] c) fun y1 =>
 .ret y1
def f (c : Int) : Option (Int) := (t c).val
def F (x : D.den) : Option (Int) := f x.2.2
def pa : D.den → (Int) → A.den := fun (_, (_, _)) y1 => ((), y1)
def con : Con := tcon D A pa F
theorem ok : ConOk Tryz.prog 131 con := tcon_ok Base.mixed Base.prog_ok bk_octet_Digit_ok (by kernel_rfl) LapsOk.nil 9 (fun _ => rfl) (fun x => t x.2.2) (fun _ => rfl) fun _ _ _ => (by kernel_rfl)
end strings_IndexByte_sx21x23x24x25x26x27x2z15
def bk_strings_IndexByte_sx21x23x24x25x26x27x2z15 : Book := bk_octet_Digit.addS 131 (fun a => isStr 0 [33, 35, 36, 37, 38, 39, 42, 43, 45, 46, 94, 95, 96, 124, 126] a) strings_IndexByte_sx21x23x24x25x26x27x2z15.con
theorem bk_strings_IndexByte_sx21x23x24x25x26x27x2z15_ok : BookOk Tryz.prog bk_strings_IndexByte_sx21x23x24x25x26x27x2z15 := bk_octet_Digit_ok.addS strings_IndexByte_sx21x23x24x25x26x27x2z15.ok
namespace octet_Token
def D : Dom := ⟨[], (.int .u8)⟩
def A : Dom := ⟨[], .bool⟩
def sel : List Nat := [0]
def t (c : Int) : Tr (Bool) :=
 .call (octet_letter.f c) fun y1 =>
 .br y1 (.ret true)
 (.call (octet_Digit.f c) fun y2 =>
  .br y2 (.ret true)
  (.call (strings_IndexByte_sx21x23x24x25x26x27x2z15.f c) fun y3 =>
  .ret (decide (y3 ≥ (0 : Int)))))
def f (c : Int) : Option (Bool) := (t c).val
def F (x : D.den) : Option (Bool) := f x.2
def pa : D.den → (Bool) → A.den := fun (_, _) y1 => ((), y1)
def con : Con := tcon D A pa F
theorem ok : ConOk Tryz.prog 108 con := tcon_ok Base.mixed Base.prog_ok bk_strings_IndexByte_sx21x23x24x25x26x27x2z15_ok (by kernel_rfl) LapsOk.nil 9 (fun _ => rfl) (fun x => t x.2) (fun _ => rfl) fun _ _ _ => (by kernel_rfl)
end octet_Token
def bk_octet_Token : Book := bk_strings_IndexByte_sx21x23x24x25x26x27x2z15.add 108 octet_Token.con
theorem bk_octet_Token_ok : BookOk Tryz.prog bk_octet_Token := bk_strings_IndexByte_sx21x23x24x25x26x27x2z15_ok.add octet_Token.ok
namespace octet_Visible
def D : Dom := ⟨[], (.int .u8)⟩
def A : Dom := ⟨[], .bool⟩
def sel : List Nat := [0]
def t (c : Int) : Tr (Bool) :=
 .br (decide (c > (32 : Int))) (.ret (decide (c < (127 : Int))))
 (.ret false)
def f (c : Int) : Option (Bool) := (t c).val
def F (x : D.den) : Option (Bool) := f x.2
def pa : D.den → (Bool) → A.den := fun (_, _) y1 => ((), y1)
def con : Con := tcon D A pa F
theorem ok : ConOk Tryz.prog 109 con := tcon_ok Base.mixed Base.prog_ok bk_octet_Token_ok (by kernel_rfl) LapsOk.nil 9 (fun _ => rfl) (fun x => t x.2) (fun _ => rfl) fun _ _ _ => (by kernel_rfl)
end octet_Visible
def bk_octet_Visible : Book := bk_octet_Token.add 109 octet_Visible.con
theorem bk_octet_Visible_ok : BookOk Tryz.prog bk_octet_Visible := bk_octet_Token_ok.add octet_Visible.ok
namespace octet_Hex
def D : Dom := ⟨[], (.int .u8)⟩
def A : Dom := ⟨[], (.tup (.cat (.int .i64) .bool))⟩
def sel : List Nat := [0]
def t (c : Int) : Tr (Int × Bool) :=
 .call (octet_Digit.f c) fun y1 =>
 .br y1 (.ret (IntKind.i64.wrap (IntKind.u8.wrap (c - (48 : Int))), true))
 (.call (octet_letter.f c) fun y2 =>
  .br y2 (.br (decide (IntKind.u8.wrap (↑(BitVec.ofInt IntKind.u8.bits c ||| BitVec.ofInt IntKind.u8.bits (32 : Int)).toNat : Int) ≤ (102 : Int))) (.ret (IntKind.i64.wrap (IntKind.i64.wrap (IntKind.u8.wrap (IntKind.u8.wrap (↑(BitVec.ofInt IntKind.u8.bits c ||| BitVec.ofInt IntKind.u8.bits (32 : Int)).toNat : Int) - (97 : Int))) + (10 : Int)), true))
  (.ret ((0 : Int), false)))
  (.ret ((0 : Int), false)))
def f (c : Int) : Option (Int × Bool) := (t c).val
def F (x : D.den) : Option (Int × Bool) := f x.2
def pa : D.den → (Int × Bool) → A.den := fun (_, _) (y1, y2) => ((), (y1, y2))
def con : Con := tcon D A pa F
theorem ok : ConOk Tryz.prog 111 con := tcon_ok Base.mixed Base.prog_ok bk_octet_Visible_ok (by kernel_rfl) LapsOk.nil 9 (fun _ => rfl) (fun x => t x.2) (fun _ => rfl) fun _ _ _ => (by kernel_rfl)
end octet_Hex
def bk_octet_Hex : Book := bk_octet_Visible.add 111 octet_Hex.con
theorem bk_octet_Hex_ok : BookOk Tryz.prog bk_octet_Hex := bk_octet_Visible_ok.add octet_Hex.ok
namespace octet_Text
def D : Dom := ⟨[], (.int .u8)⟩
def A : Dom := ⟨[], .bool⟩
def sel : List Nat := [0]
def t (c : Int) : Tr (Bool) :=
 .call (octet_Visible.f c) fun y1 =>
 .br y1 (.ret true)
 (.call (octet_Blank.f c) fun y2 =>
  .br y2 (.ret true)
  (.ret (decide (c ≥ (128 : Int)))))
def f (c : Int) : Option (Bool) := (t c).val
def F (x : D.den) : Option (Bool) := f x.2
def pa : D.den → (Bool) → A.den := fun (_, _) y1 => ((), y1)
def con : Con := tcon D A pa F
theorem ok : ConOk Tryz.prog 112 con := tcon_ok Base.mixed Base.prog_ok bk_octet_Hex_ok (by kernel_rfl) LapsOk.nil 9 (fun _ => rfl) (fun x => t x.2) (fun _ => rfl) fun _ _ _ => (by kernel_rfl)
end octet_Text
def bk_octet_Text : Book := bk_octet_Hex.add 112 octet_Text.con
theorem bk_octet_Text_ok : BookOk Tryz.prog bk_octet_Text := bk_octet_Hex_ok.add octet_Text.ok
namespace octet_of
def D : Dom := ⟨[], (.cat (.int .u8) (.int .i64))⟩
def A : Dom := ⟨[], .bool⟩
def sel : List Nat := [0, 1]
def t (c : Int) (kind : Int) : Tr (Bool) :=
 .br (kind == (1 : Int)) (.call (octet_Token.f c) fun y1 =>
  .ret y1)
 (.br (kind == (2 : Int)) (.call (octet_Visible.f c) fun y2 =>
  .ret y2)
  (.br (kind == (3 : Int)) (.call (octet_Blank.f c) fun y3 =>
   .ret y3)
  (.br (kind == (4 : Int)) (.call (octet_Digit.f c) fun y4 =>
   .ret y4)
   (.br (kind == (5 : Int)) (.call (octet_Hex.f c) fun (_, y5b) =>
    .ret y5b)
   (.br (kind == (6 : Int)) (.call (octet_Text.f c) fun y6 =>
    .ret y6)
    (.ret false))))))
def f (c : Int) (kind : Int) : Option (Bool) := (t c kind).val
def F (x : D.den) : Option (Bool) := f x.2.1 x.2.2
def pa : D.den → (Bool) → A.den := fun (_, (_, _)) y1 => ((), y1)
def con : Con := tcon D A pa F
theorem ok : ConOk Tryz.prog 89 con := tcon_ok Base.mixed Base.prog_ok bk_octet_Text_ok (by kernel_rfl) LapsOk.nil 9 (fun _ => rfl) (fun x => t x.2.1 x.2.2) (fun _ => rfl) fun _ _ _ => (by kernel_rfl)
end octet_of
def bk_octet_of : Book := bk_octet_Text.add 89 octet_of.con
theorem bk_octet_of_ok : BookOk Tryz.prog bk_octet_of := bk_octet_Text_ok.add octet_of.ok
namespace octet_All
def D : Dom := ⟨[.vec (.int .i64) 3 true], (.cat .str (.sl 0 1))⟩
namespace L6
def D : Dom := ⟨[.vec (.int .i64) 3 true], (.cat .str (.cat (.sl 0 1) (.cat (.int .i64) (.cat .bool (.cat (.int .i64) (.cat (.int .i64) (.cat (.sl 0 1) (.cat (.int .i64) (.int .i64)))))))))⟩
def A : Dom := ⟨[.vec (.int .i64) 3 true], (.cat .str (.cat (.sl 0 1) (.cat .bool (.cat (.int .i64) (.int .i64)))))⟩
def sel : List Nat := [0, 1, 2, 3, 6, 7]
def t (kinds : List Int) (s : List UInt8) (i : Int) (vis : Bool) (t15 : Int) (t16 : Int) : Tr ((Bool × Int) ⊕ (Bool)) :=
 .br (decide (t16 < t15)) (.chk ((0 : Int) ≤ t16 ∧ t16 < (↑kinds.length : Int)) <| .chk ((0 : Nat) + t16.toNat < kinds.length) <| .br vis (.okl kinds.length <| .okl kinds.length <| .ret (.inl (true, IntKind.i64.wrap (t16 + (1 : Int)))))
  (.chk ((0 : Int) ≤ i ∧ i < (↑s.length : Int)) <| .call (octet_of.f (↑(s.getD i.toNat (0 : UInt8)).toNat : Int) (kinds.getD ((0 : Nat) + t16.toNat) (0 : Int))) fun y1 =>
  .okl kinds.length <| .okl kinds.length <| .ret (.inl (y1, IntKind.i64.wrap (t16 + (1 : Int))))))
 (.okl kinds.length <| .ret (.inr vis))
def f (kinds : List Int) (s : List UInt8) (i : Int) (vis : Bool) (t15 : Int) (t16 : Int) : Option (Bool) := Loop (fun z : Bool × Int => t kinds s i z.1 t15 z.2) (vis, t16)
def F (x : D.den) : Option (Bool) := f x.1.1 x.2.1 x.2.2.2.1 x.2.2.2.2.1 x.2.2.2.2.2.2.2.2.1 x.2.2.2.2.2.2.2.2.2
def pa : D.den → (Bool) → A.den := fun ((kinds, _), (s, (_, (_, (_, (t10, (t11, (_, (_, _))))))))) y1 => ((kinds, ()), (s, ((), (y1, (t10, t11)))))
def lap : Lap := tlap 6 32 [0, 1, 5, 6, 10, 11, 14, 15, 16] D (.exit 2) [0, 1, 6, 10, 11] A pa F
def pk (x : D.den) (z : Bool × Int) : D.den := ((x.1.1, ()), (x.2.1, ((), (x.2.2.2.1, (z.1, (x.2.2.2.2.2.1, (x.2.2.2.2.2.2.1, ((), (x.2.2.2.2.2.2.2.2.1, z.2)))))))))
def un (x : D.den) : Bool × Int := (x.2.2.2.2.1, x.2.2.2.2.2.2.2.2.2)
def body (x : D.den) (z : Bool × Int) : Tr ((Bool × Int) ⊕ (Bool)) := t x.1.1 x.2.1 x.2.2.2.1 z.1 x.2.2.2.2.2.2.2.2.1 z.2
theorem ok : LapOk Tryz.prog 1 (codeOf Tryz.prog 72) lap := tlap_ok Base.mixed Base.prog_ok bk_octet_of_ok (by kernel_rfl) (by kernel_rfl) LapsOk.nil 9 pk un body (fun _ _ => rfl) (fun _ _ => rfl) (fun _ _ => rfl) (fun _ => rfl) fun _ _ _ _ => (by kernel_rfl)
end L6
namespace L2
def D : Dom := ⟨[.vec (.int .i64) 3 true], (.cat .str (.cat (.sl 0 1) (.cat (.int .i64) (.int .i64))))⟩
def A : Dom := ⟨[.vec (.int .i64) 3 true], .nil⟩
def B : Dom := ⟨[.vec (.int .i64) 3 true], .bool⟩
def sel : List Nat := [0, 1, 2, 3]
def t (kinds : List Int) (s : List UInt8) (t10 : Int) (t11 : Int) : Tr ((Int) ⊕ ((Unit) ⊕ (Bool))) :=
 .br (decide (t11 < t10)) (.okl kinds.length <| .okl kinds.length <| .call (octet_All.L6.f kinds s t11 false (↑kinds.length : Int) (0 : Int)) fun y1 =>
  .br (!y1) (.ret (.inr (.inr false)))
  (.okl kinds.length <| .ret (.inl (IntKind.i64.wrap (t11 + (1 : Int))))))
 (.ret (.inr (.inl ())))
def f (kinds : List Int) (s : List UInt8) (t10 : Int) (t11 : Int) : Option ((Unit) ⊕ (Bool)) := Loop (fun z : Int => t kinds s t10 z) t11
def F (x : D.den) : Option ((Unit) ⊕ (Bool)) := f x.1.1 x.2.1 x.2.2.2.1 x.2.2.2.2
def pa : D.den → (Unit) → A.den := fun ((kinds, _), (_, (_, (_, _)))) _ => ((kinds, ()), ())
def pb : D.den → (Bool) → B.den := fun ((kinds, _), (_, (_, (_, _)))) y1 => ((kinds, ()), y1)
def lap : Lap := tlap2 2 32 [0, 1, 10, 11] D (.exit 0) [] A .ret [4] B pa pb F
def pk (x : D.den) (z : Int) : D.den := ((x.1.1, ()), (x.2.1, ((), (x.2.2.2.1, z))))
def un (x : D.den) : Int := x.2.2.2.2
def body (x : D.den) (z : Int) : Tr ((Int) ⊕ ((Unit) ⊕ (Bool))) := t x.1.1 x.2.1 x.2.2.2.1 z
theorem ok : LapOk Tryz.prog 1 (codeOf Tryz.prog 72) lap := tlap2_ok Base.mixed Base.prog_ok bk_octet_of_ok (by kernel_rfl) (by kernel_rfl) (.cons L6.ok (by kernel_rfl) (.nil)) 9 pk un body (fun _ _ => rfl) (fun _ _ => rfl) (fun _ _ => rfl) (fun _ _ => rfl) (fun _ => rfl) fun _ _ _ _ => (by kernel_rfl)
end L2
def A : Dom := ⟨[.vec (.int .i64) 3 true], .bool⟩
def sel : List Nat := [0, 1]
def t (kinds : List Int) (s : List UInt8) : Tr (Bool) :=
 .okl kinds.length <| .both (octet_All.L2.f kinds s (↑s.length : Int) (0 : Int)) (fun _ => .ret true)
 (fun y2 => .ret y2)
def f (kinds : List Int) (s : List UInt8) : Option (Bool) := (t kinds s).val
def F (x : D.den) : Option (Bool) := f x.1.1 x.2.1
def pa : D.den → (Bool) → A.den := fun ((kinds, _), (_, _)) y1 => ((kinds, ()), y1)
def con : Con := tcon D A pa F
theorem ok : ConOk Tryz.prog 72 con := tcon_ok Base.mixed Base.prog_ok bk_octet_of_ok (by kernel_rfl) (.cons L6.ok (by kernel_rfl) (.cons L2.ok (by kernel_rfl) (.nil))) 9 (fun _ => rfl) (fun x => t x.1.1 x.2.1) (fun _ => rfl) fun _ _ _ => (by kernel_rfl)
end octet_All
def bk_octet_All : Book := bk_octet_of.add 72 octet_All.con
theorem bk_octet_All_ok : BookOk Tryz.prog bk_octet_All := bk_octet_of_ok.add octet_All.ok
namespace field_Right
def D : Dom := ⟨[], (.agg (.cat .str .str))⟩
def A : Dom := ⟨[], .bool⟩
def sel : List Nat := [0, 1]
def t (Name : List UInt8) (Value : List UInt8) : Tr (Bool) :=
 .chk ((↑(Name.length + [(58 : UInt8)].length) : Int) ≤ (9223372036854775807 : Int)) <| .chk ((↑((Name ++ [(58 : UInt8)]).length + Value.length) : Int) ≤ (9223372036854775807 : Int)) <| .call (strings_Cut_sx3a.f (Name ++ [(58 : UInt8)] ++ Value)) fun (y1a, y1b, y1c) =>
 .br (!y1c) (.call (field_out.f (0 : Int) (11 : Int)) fun (y2a, y2b, y2c, y2d) =>
  .br y2c (.br (y2d == (0 : Int)) (.ret (y2a == Name && (y2b == Value && true)))
  (.ret false))
  (.ret false))
 (.br (y1a == []) (.call (field_out.f (0 : Int) (12 : Int)) fun (y3a, y3b, y3c, y3d) =>
  .br y3c (.br (y3d == (0 : Int)) (.ret (y3a == Name && (y3b == Value && true)))
   (.ret false))
  (.ret false))
  (.call (text_Trim.f y1b) fun y4 =>
  .call (octet_All.f [(1 : Int)] y1a) fun y5 =>
  .br (!y5) (.ret false)
  (.call (octet_All.f [(6 : Int)] y4) fun y6 =>
   .br (!y6) (.ret false)
   (.ret (y1a == Name && (y4 == Value && true))))))
def f (Name : List UInt8) (Value : List UInt8) : Option (Bool) := (t Name Value).val
def F (x : D.den) : Option (Bool) := f x.2.1 x.2.2
def pa : D.den → (Bool) → A.den := fun (_, (_, _)) y1 => ((), y1)
def con : Con := tcon D A pa F
theorem ok : ConOk Tryz.prog 34 con := tcon_ok Base.mixed Base.prog_ok bk_octet_All_ok (by kernel_rfl) LapsOk.nil 9 (fun _ => rfl) (fun x => t x.2.1 x.2.2) (fun _ => rfl) fun _ _ _ => (by kernel_rfl)
end field_Right
def bk_field_Right : Book := bk_octet_All.add 34 field_Right.con
theorem bk_field_Right_ok : BookOk Tryz.prog bk_field_Right := bk_octet_All_ok.add field_Right.ok
namespace reply_Right_1
def D : Dom := ⟨[], (.agg (.cat .str .str))⟩
def A : Dom := ⟨[], .bool⟩
def sel : List Nat := [0, 1]
def t (Name : List UInt8) (Value : List UInt8) : Tr (Bool) :=
 .call (field_Right.f Name Value) fun y1 =>
 .ret (!y1)
def f (Name : List UInt8) (Value : List UInt8) : Option (Bool) := (t Name Value).val
def F (x : D.den) : Option (Bool) := f x.2.1 x.2.2
def pa : D.den → (Bool) → A.den := fun (_, (_, _)) y1 => ((), y1)
def con : Con := tcon D A pa F
theorem ok : ConOk Tryz.prog 33 con := tcon_ok Base.mixed Base.prog_ok bk_field_Right_ok (by kernel_rfl) LapsOk.nil 9 (fun _ => rfl) (fun x => t x.2.1 x.2.2) (fun _ => rfl) fun _ _ _ => (by kernel_rfl)
end reply_Right_1
def bk_reply_Right_1 : Book := bk_field_Right.add 33 reply_Right_1.con
theorem bk_reply_Right_1_ok : BookOk Tryz.prog bk_reply_Right_1 := bk_field_Right_ok.add reply_Right_1.ok
namespace slices_IndexFunc_f_reply_Right_1
def D : Dom := ⟨[.vec (.pair .str .str) 30 true], (.cat (.sl 0 2) (.lit (.func (.func 33) [] [])))⟩
namespace L2
def D : Dom := ⟨[.vec (.pair .str .str) 30 true], (.cat (.sl 0 2) (.cat (.lit (.func (.func 33) [] [])) (.cat (.int .i64) (.int .i64))))⟩
def A : Dom := ⟨[.vec (.pair .str .str) 30 true], .nil⟩
def B : Dom := ⟨[.vec (.pair .str .str) 30 true], (.int .i64)⟩
def sel : List Nat := [0, 1, 2]
def t (s : List (List UInt8 × List UInt8)) (t7 : Int) (t8 : Int) : Tr ((Int) ⊕ ((Unit) ⊕ (Int))) :=
 .br (decide (t8 < t7)) (.chk ((0 : Int) ≤ t8 ∧ t8 < (↑s.length : Int)) <| .chk ((0 : Nat) + t8.toNat < s.length) <| .call (reply_Right_1.f ((s.getD ((0 : Nat) + t8.toNat) ([], [])).fst) ((s.getD ((0 : Nat) + t8.toNat) ([], [])).snd)) fun y1 =>
  .br y1 (.ret (.inr (.inr t8)))
  (.okl s.length <| .ret (.inl (IntKind.i64.wrap (t8 + (1 : Int))))))
 (.ret (.inr (.inl ())))
def f (s : List (List UInt8 × List UInt8)) (t7 : Int) (t8 : Int) : Option ((Unit) ⊕ (Int)) := Loop (fun z : Int => t s t7 z) t8
def F (x : D.den) : Option ((Unit) ⊕ (Int)) := f x.1.1 x.2.2.2.1 x.2.2.2.2
def pa : D.den → (Unit) → A.den := fun ((s, _), (_, (_, (_, _)))) _ => ((s, ()), ())
def pb : D.den → (Int) → B.den := fun ((s, _), (_, (_, (_, _)))) y1 => ((s, ()), y1)
def lap : Lap := tlap2 2 19 [0, 1, 7, 8] D (.exit 0) [] A .ret [4] B pa pb F
def pk (x : D.den) (z : Int) : D.den := ((x.1.1, ()), ((), ((), (x.2.2.2.1, z))))
def un (x : D.den) : Int := x.2.2.2.2
def body (x : D.den) (z : Int) : Tr ((Int) ⊕ ((Unit) ⊕ (Int))) := t x.1.1 x.2.2.2.1 z
theorem ok : LapOk Tryz.prog 1 (codeOf Tryz.prog 48) lap := tlap2_ok Base.mixed Base.prog_ok bk_reply_Right_1_ok (by kernel_rfl) (by kernel_rfl) LapsOk.nil 9 pk un body (fun _ _ => rfl) (fun _ _ => rfl) (fun _ _ => rfl) (fun _ _ => rfl) (fun _ => rfl) fun _ _ _ _ => (by kernel_rfl)
end L2
def A : Dom := ⟨[.vec (.pair .str .str) 30 true], (.int .i64)⟩
def sel : List Nat := [0]
def t (s : List (List UInt8 × List UInt8)) : Tr (Int) :=
 .okl s.length <| .both (slices_IndexFunc_f_reply_Right_1.L2.f s (↑s.length : Int) (0 : Int)) (fun _ => .ret (-1 : Int))
 (fun y2 => .ret y2)
def f (s : List (List UInt8 × List UInt8)) : Option (Int) := (t s).val
def F (x : D.den) : Option (Int) := f x.1.1
def pa : D.den → (Int) → A.den := fun ((s, _), (_, _)) y1 => ((s, ()), y1)
def con : Con := tcon D A pa F
theorem ok : ConOk Tryz.prog 48 con := tcon_ok Base.mixed Base.prog_ok bk_reply_Right_1_ok (by kernel_rfl) (.cons L2.ok (by kernel_rfl) (.nil)) 9 (fun _ => rfl) (fun x => t x.1.1) (fun _ => rfl) fun _ _ _ => (by kernel_rfl)
end slices_IndexFunc_f_reply_Right_1
def bk_slices_IndexFunc_f_reply_Right_1 : Book := bk_reply_Right_1.addS 48 (fun a => isFunc 1 33 a) slices_IndexFunc_f_reply_Right_1.con
theorem bk_slices_IndexFunc_f_reply_Right_1_ok : BookOk Tryz.prog bk_slices_IndexFunc_f_reply_Right_1 := bk_reply_Right_1_ok.addS slices_IndexFunc_f_reply_Right_1.ok
namespace slices_ContainsFunc_f_reply_Right_1
def D : Dom := slices_IndexFunc_f_reply_Right_1.D
def A : Dom := ⟨[.vec (.pair .str .str) 30 true], .bool⟩
def sel : List Nat := [0]
def t (s : List (List UInt8 × List UInt8)) : Tr (Bool) :=
 .chk ((0 : Nat) + s.length ≤ s.length) <| .call (slices_IndexFunc_f_reply_Right_1.f (List.take s.length (List.drop (0 : Nat) s))) fun y1 =>
 .ret (decide (y1 ≥ (0 : Int)))
def f (s : List (List UInt8 × List UInt8)) : Option (Bool) := (t s).val
def F (x : D.den) : Option (Bool) := f x.1.1
def pa : D.den → (Bool) → A.den := fun ((s, _), (_, _)) y1 => ((s, ()), y1)
def con : Con := tcon D A pa F
theorem ok : ConOk Tryz.prog 32 con := tcon_ok Base.mixed Base.prog_ok bk_slices_IndexFunc_f_reply_Right_1_ok (by kernel_rfl) LapsOk.nil 9 (fun _ => rfl) (fun x => t x.1.1) (fun _ => rfl) fun _ _ _ => (by kernel_rfl)
end slices_ContainsFunc_f_reply_Right_1
def bk_slices_ContainsFunc_f_reply_Right_1 : Book := bk_slices_IndexFunc_f_reply_Right_1.addS 32 (fun a => isFunc 1 33 a) slices_ContainsFunc_f_reply_Right_1.con
theorem bk_slices_ContainsFunc_f_reply_Right_1_ok : BookOk Tryz.prog bk_slices_ContainsFunc_f_reply_Right_1 := bk_slices_IndexFunc_f_reply_Right_1_ok.addS slices_ContainsFunc_f_reply_Right_1.ok
namespace reply_Right
def D : Dom := ⟨[.vec (.pair .str .str) 30 true, .vec .byte 5 true], (.agg (.cat (.int .i64) (.cat (.sl 0 2) (.sl 1 1))))⟩
def A : Dom := ⟨[.vec (.pair .str .str) 30 true, .vec .byte 5 true], .bool⟩
def sel : List Nat := [0, 2]
def t (Fields : List (List UInt8 × List UInt8)) (Code : Int) : Tr (Bool) :=
 .br (decide (Code ≥ (200 : Int))) (.br (decide (Code ≤ (599 : Int))) (.chk ((0 : Nat) + Fields.length ≤ Fields.length) <| .call (slices_ContainsFunc_f_reply_Right_1.f (List.take Fields.length (List.drop (0 : Nat) Fields))) fun y1 =>
  .ret (!y1))
  (.ret false))
 (.ret false)
def f (Fields : List (List UInt8 × List UInt8)) (Code : Int) : Option (Bool) := (t Fields Code).val
def F (x : D.den) : Option (Bool) := f x.1.1 x.2.1
def pa : D.den → (Bool) → A.den := fun ((Fields, (Body, _)), (_, (_, _))) y1 => ((Fields, (Body, ())), y1)
def con : Con := tcon D A pa F
theorem ok : ConOk Tryz.prog 11 con := tcon_ok Base.mixed Base.prog_ok bk_slices_ContainsFunc_f_reply_Right_1_ok (by kernel_rfl) LapsOk.nil 9 (fun _ => rfl) (fun x => t x.1.1 x.2.1) (fun _ => rfl) fun _ _ _ => (by kernel_rfl)
end reply_Right
def bk_reply_Right : Book := bk_slices_ContainsFunc_f_reply_Right_1.add 11 reply_Right.con
theorem bk_reply_Right_ok : BookOk Tryz.prog bk_reply_Right := bk_slices_ContainsFunc_f_reply_Right_1_ok.add reply_Right.ok
namespace text_Lower
def D : Dom := ⟨[], .str⟩
namespace L3
def D : Dom := ⟨[.vec .byte 5 false], (.cat (.sl 0 1) (.cat (.sl 0 1) (.cat (.int .i64) (.int .i64))))⟩
def A : Dom := ⟨[.vec .byte 5 false], (.sl 0 1)⟩
def sel : List Nat := [0, 1, 2]
def t (b : List UInt8) (t9 : Int) (t10 : Int) : Tr ((List UInt8 × Int) ⊕ (List UInt8)) :=
 .br (decide (t10 < t9)) (.chk ((0 : Int) ≤ t10 ∧ t10 < (↑b.length : Int)) <| .chk ((0 : Nat) + t10.toNat < b.length) <| .br (decide ((↑(UInt8.toNat (b.getD ((0 : Nat) + t10.toNat) (0 : UInt8))) : Int) ≥ (65 : Int))) (.br (decide ((↑(UInt8.toNat (b.getD ((0 : Nat) + t10.toNat) (0 : UInt8))) : Int) ≤ (90 : Int))) (.chk ((0 : Int) ≤ t10 ∧ t10 < (↑b.length : Int)) <| .chk ((0 : Nat) + t10.toNat < b.length) <| .chk ((0 : Int) ≤ IntKind.u8.wrap (IntKind.u8.wrap ((↑(UInt8.toNat (b.getD ((0 : Nat) + t10.toNat) (0 : UInt8))) : Int) + (97 : Int)) - (65 : Int)) ∧ IntKind.u8.wrap (IntKind.u8.wrap ((↑(UInt8.toNat (b.getD ((0 : Nat) + t10.toNat) (0 : UInt8))) : Int) + (97 : Int)) - (65 : Int)) < (256 : Int)) <| .okl b.length <| .chk ((0 : Nat) = (0 : Nat) ∧ b.length = (b.set ((0 : Nat) + t10.toNat) (UInt8.ofNat (IntKind.u8.wrap (IntKind.u8.wrap ((↑(UInt8.toNat (b.getD ((0 : Nat) + t10.toNat) (0 : UInt8))) : Int) + (97 : Int)) - (65 : Int))).toNat)).length) <| .ret (.inl (b.set ((0 : Nat) + t10.toNat) (UInt8.ofNat (IntKind.u8.wrap (IntKind.u8.wrap ((↑(UInt8.toNat (b.getD ((0 : Nat) + t10.toNat) (0 : UInt8))) : Int) + (97 : Int)) - (65 : Int))).toNat), IntKind.i64.wrap (t10 + (1 : Int)))))
  (.okl b.length <| .okl b.length <| .ret (.inl (b, IntKind.i64.wrap (t10 + (1 : Int))))))
  (.okl b.length <| .okl b.length <| .ret (.inl (b, IntKind.i64.wrap (t10 + (1 : Int))))))
 (.okl b.length <| .ret (.inr b))
def f (b : List UInt8) (t9 : Int) (t10 : Int) : Option (List UInt8) := Loop (fun z : List UInt8 × Int => t z.1 t9 z.2) (b, t10)
def F (x : D.den) : Option (List UInt8) := f x.1.1 x.2.2.2.1 x.2.2.2.2
def pa : D.den → (List UInt8) → A.den := fun ((_, _), (_, (_, (_, _)))) y1 => ((y1, ()), ())
def lap : Lap := tlap 3 30 [3, 8, 9, 10] D (.exit 0) [3] A pa F
def pk (x : D.den) (z : List UInt8 × Int) : D.den := ((z.1, ()), ((), ((), (x.2.2.2.1, z.2))))
def un (x : D.den) : List UInt8 × Int := (x.1.1, x.2.2.2.2)
def body (x : D.den) (z : List UInt8 × Int) : Tr ((List UInt8 × Int) ⊕ (List UInt8)) := t z.1 x.2.2.2.1 z.2
theorem ok : LapOk Tryz.prog 0 (codeOf Tryz.prog 64) lap := tlap_ok Base.mixed Base.prog_ok bk_reply_Right_ok (by kernel_rfl) (by kernel_rfl) LapsOk.nil 9 pk un body (fun _ _ => rfl) (fun _ _ => rfl) (fun _ _ => rfl) (fun _ => rfl) fun _ _ _ _ => (by kernel_rfl)
end L3
def A : Dom := ⟨[], .str⟩
def sel : List Nat := [0]
def t (s : List UInt8) : Tr (List UInt8) :=
 .chk (s.length ≤ (140737488355328 : Nat)) <| .okl s.length <| .chk ((0 : Nat) = (0 : Nat) ∧ s.length = ([] ++ s).length) <| .call (text_Lower.L3.f ([] ++ s) (↑s.length : Int) (0 : Int)) fun y1 =>
 .chk ((0 : Nat) + y1.length ≤ y1.length) <| .ret (List.take y1.length (List.drop (0 : Nat) y1))
def f (s : List UInt8) : Option (List UInt8) := (t s).val
def F (x : D.den) : Option (List UInt8) := f x.2
def pa : D.den → (List UInt8) → A.den := fun (_, _) y1 => ((), y1)
def con : Con := tcon D A pa F
theorem ok : ConOk Tryz.prog 64 con := tcon_ok Base.mixed Base.prog_ok bk_reply_Right_ok (by kernel_rfl) (.cons L3.ok (by kernel_rfl) (.nil)) 9 (fun _ => rfl) (fun x => t x.2) (fun _ => rfl) fun _ _ _ => (by kernel_rfl)
end text_Lower
def bk_text_Lower : Book := bk_reply_Right.add 64 text_Lower.con
theorem bk_text_Lower_ok : BookOk Tryz.prog bk_text_Lower := bk_reply_Right_ok.add text_Lower.ok
namespace text_Same
def D : Dom := ⟨[], (.cat .str .str)⟩
def A : Dom := ⟨[], .bool⟩
def sel : List Nat := [0, 1]
def t (va : List UInt8) (b : List UInt8) : Tr (Bool) :=
 .call (text_Lower.f va) fun y1 =>
 .call (text_Lower.f b) fun y2 =>
 .ret (y1 == y2)
def f (va : List UInt8) (b : List UInt8) : Option (Bool) := (t va b).val
def F (x : D.den) : Option (Bool) := f x.2.1 x.2.2
def pa : D.den → (Bool) → A.den := fun (_, (_, _)) y1 => ((), y1)
def con : Con := tcon D A pa F
theorem ok : ConOk Tryz.prog 44 con := tcon_ok Base.mixed Base.prog_ok bk_text_Lower_ok (by kernel_rfl) LapsOk.nil 9 (fun _ => rfl) (fun x => t x.2.1 x.2.2) (fun _ => rfl) fun _ _ _ => (by kernel_rfl)
end text_Same
def bk_text_Same : Book := bk_text_Lower.add 44 text_Same.con
theorem bk_text_Same_ok : BookOk Tryz.prog bk_text_Same := bk_text_Lower_ok.add text_Same.ok
namespace text_Without_1
def D : Dom := ⟨[.cells (.cat .str .str) 30 false], (.cat .str (.ptr 0 0 0 0))⟩
def A : Dom := ⟨[.cells (.cat .str .str) 30 false], .bool⟩
def sel : List Nat := [0, 2]
def t (Name : List UInt8) (n : List UInt8) : Tr (Bool) :=
 .call (text_Same.f Name n) fun y1 =>
 .ret y1
def f (Name : List UInt8) (n : List UInt8) : Option (Bool) := (t Name n).val
def F (x : D.den) : Option (Bool) := f x.1.1.1 x.2.1
def pa : D.den → (Bool) → A.den := fun (((Name, Value), _), (_, _)) y1 => (((Name, Value), ()), y1)
def con : Con := tcon D A pa F
theorem ok : ConOk Tryz.prog 43 con := tcon_ok Base.mixed Base.prog_ok bk_text_Same_ok (by kernel_rfl) LapsOk.nil 9 (fun _ => rfl) (fun x => t x.1.1.1 x.2.1) (fun _ => rfl) fun _ _ _ => (by kernel_rfl)
end text_Without_1
def bk_text_Without_1 : Book := bk_text_Same.add 43 text_Without_1.con
theorem bk_text_Without_1_ok : BookOk Tryz.prog bk_text_Without_1 := bk_text_Same_ok.add text_Without_1.ok
end Go.Vx
end
