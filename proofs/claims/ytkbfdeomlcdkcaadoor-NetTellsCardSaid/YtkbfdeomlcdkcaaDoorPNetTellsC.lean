/- Printed by a program of ours out of our texts: the evaluator, the printed functions, the plain laws. (A help: no statement of the seat is proved here.) -/
import Derived.Test.YtkbfdeomlcdkcaaDoorPNetTellsB
import Derived.OpenShut
import Derived.ReadAgain
import Derived.Test.YtkbfdeomlcdkcaaDoorChecked
import Derived.KernelRfl
import Derived.Lib.Strings
import Derived.Lib.Slices
import Derived.Lib.Walk
import Derived.Lib.Bytealg
import Derived.Laws.AppendOwn
import Derived.Below
import Derived.Shelf.Strconv.Itoa3
import Derived.Shelf.Strings.OnBuilder
import Derived.Lib.AppendIntMem
import Derived.Lib.ItoaNum
import Derived.Lib.Join
section
set_option linter.unusedVariables false
set_option linter.unusedSimpArgs false
namespace Go.Vx
def matLitS (v : AV) (l : List AV) (k : List AV → Prop) : Prop := match l with
 | u :: l => match litOk v u with
  | true => k l
  | false => False
 | [] => False
def matPtrS (g e z o : Nat) (l : List AV) (ρ : Rho) (k : List AV → Rho → Prop) : Prop := match l with
 | .ptr _ (some r) :: l => match Nat.beq r.e e && Nat.beq r.z z && Nat.beq r.o o with
  | true => match ρ.find g with
   | none => k l ((g, .whole r.g) :: ρ)
   | some (.whole g') => match Nat.beq g' r.g with
    | true => k l ρ
    | false => False
   | _ => False
  | false => False
 | _ => False
def matSlS (H : Heap) (g z : Nat) (l : List AV) (ρ : Rho) (k : List AV → Rho → Prop) : Prop := match l with
 | .slice _ none _ _ :: l => match ρ.find g with
   | none => k l ((g, .nil) :: ρ)
   | some .nil => k l ρ
   | _ => False
 | .slice t (some r) n z' :: l => match Nat.beq z' z && Nat.beq r.z z && Nat.beq r.o 0 with
  | true => match ρ.find g with
   | none => k l ((g, .win r.g r.e n z) :: ρ)
   | some (.whole g') => match Nat.beq g' r.g with
    | true => must (rowLen H r.g z) fun m => need true (r.e = 0 ∧ n = m) (k l ρ)
    | false => False
   | some (.win g' e' n' z0) => match Nat.beq g' r.g && Nat.beq z0 z with
    | true => need true (e' = r.e ∧ n' = n) (k l ρ)
    | false => False
   | _ => False
  | false => False
 | .vec t x :: l => match Nat.beq t.z z with
  | true => match ρ.find g with
   | none => k l ((g, .inl t x) :: ρ)
   | _ => False
  | false => False
 | _ => False
def matDatS (H : Heap) (t : Ty) (l : List AV) (k : List t.den → List AV → Prop) : Prop := match l with
 | .slice _ (some r) n z :: l => match H.get r.g with
  | some (.fro t' L _) => if h : t' = t then (match Nat.beq r.z t'.z && Nat.beq r.o 0 && Nat.beq z t'.z with
   | true => need true (r.e + n ≤ L.length) (k (h ▸ (L.drop r.e).take n) l)
   | false => False) else False
  | _ => False
 | l => decSlS t l k
def matPartS (g z : Nat) (l : List AV) (ρ : Rho) (k : Nat × Nat → List AV → Rho → Prop) : Prop := match l with
 | .slice _ (some r) n z' :: l => match Nat.beq z' z && Nat.beq r.z z && Nat.beq r.o 0 with
  | true => match ρ.find g with
   | none => k (r.e, n) l ((g, .whole r.g) :: ρ)
   | some (.whole g') => match Nat.beq g' r.g with
    | true => k (r.e, n) l ρ
    | false => False
   | _ => False
  | false => False
 | _ => False
def matVS (H : Heap) : (p : VP) → List AV → Rho → (p.den → List AV → Rho → Prop) → Prop
 | .bool, l, ρ, k => decBoolS l fun x l => k x l ρ
 | .int kd, l, ρ, k => decIntS kd l fun x l => k x l ρ
 | .num kd, l, ρ, k => decIntS kd l fun x l => k x l ρ
 | .byte, l, ρ, k => decByteS l fun x l => k x l ρ
 | .str, l, ρ, k => decStrS l fun x l => k x l ρ
 | .vec t, l, ρ, k => matDatS H t l fun x l => k x l ρ
 | .lit v, l, ρ, k => matLitS v l fun l => k () l ρ
 | .ptr g e z o, l, ρ, k => matPtrS g e z o l ρ fun l ρ => k () l ρ
 | .sl g z, l, ρ, k => matSlS H g z l ρ fun l ρ => k () l ρ
 | .part g z, l, ρ, k => matPartS g z l ρ k
 | .nil, l, ρ, k => k () l ρ
 | .cat a b, l, ρ, k => matVS H a l ρ fun x l ρ => matVS H b l ρ fun y l ρ => k (x, y) l ρ
 | .agg p, l, ρ, k => match l with
  | .agg cs :: l => matVS H p cs ρ fun x rest ρ => match rest with
   | [] => k x l ρ
   | _ => False
  | _ => False
 | .tup p, l, ρ, k => match l with
  | .tup cs :: l => matVS H p cs ρ fun x rest ρ => match rest with
   | [] => k x l ρ
   | _ => False
  | _ => False
 | .func f p q, l, ρ, k => match l with
  | .func f' xs ys :: l => if f' = f then matVS H p xs ρ fun x rest ρ => match rest with
    | [] => matVS H q ys ρ fun y rest ρ => match rest with
     | [] => k (x, y) l ρ
     | _ => False
    | _ => False
   else False
  | _ => False
def matVecS (H : Heap) (t : Ty) (ro : Bool) (s : Src) (k : List t.den → Prop) : Prop := match s with
 | .whole g => match H.get g with
  | some (.vec t' L _ ro') => if h : t' = t then (match ro || !ro' with
   | true => k (h ▸ L)
   | false => False) else False
  | _ => False
 | .win g e n z => match Nat.beq z t.z && !(Nat.beq z 0) with
  | true => match H.get g with
   | some (.vec t' L _ ro') => if h : t' = t then
     (match ro with
      | true => need true (e + n ≤ L.length) (k (h ▸ (L.drop e).take n))
      | false => match ro' with
       | false => need true (e = 0 ∧ n = L.length) (k (h ▸ L))
       | true => False) else False
   | some (.fro t' L _) => if h : t' = t then
     (match ro with
      | true => need true (e + n ≤ L.length) (k (h ▸ (L.drop e).take n))
      | false => False) else False
   | some (.cells cs _ ro') => match ro with
    | true => match Nat.ble (e * z + n * z) cs.length with
     | true => decLS t ((cs.drop (e * z)).take (n * z)) k
     | false => False
    | false => match Nat.beq e 0 && Nat.beq (n * z) cs.length && !ro' with
     | true => decLS t cs k
     | false => False
   | _ => False
  | false => False
 | .nil => k []
 | .inl t' l => if h : t' = t then (match ro && !(Nat.beq t.z 0) with
  | true => k (h ▸ l)
  | false => False) else False
def matRS (H : Heap) : (r : RP) → Option Src → Rho → (r.den → Rho → Prop) → Prop
 | .dead, _, ρ, k => k () ρ
 | .vec t _ ro, s, ρ, k => match s with
  | some s => matVecS H t ro s fun l => k l ρ
  | none => False
 | .cells p _ ro, s, ρ, k => match s with
  | some (.whole g) => match H.get g with
   | some (.cells cs _ ro') => match ro || !ro' with
    | true => matVS H p cs ρ fun x rest ρ => match rest with
     | [] => k x ρ
     | _ => False
    | false => False
   | _ => False
  | _ => False
def matRsS (H : Heap) : (rs : List RP) → Nat → Rho → (rowsDen rs → Rho → Prop) → Prop
 | [], _, ρ, k => k () ρ
 | r :: rs, i, ρ, k => matRS H r (ρ.find i) ρ fun x ρ => matRsS H rs (i + 1) ρ fun xs ρ => k (x, xs) ρ
def Dom.matS (D : Dom) (vs : List AV) (H : Heap) (ρ0 : Rho) (k : D.den → Rho → Prop) : Prop :=
 matVS H D.vals vs ρ0 fun xv rest ρ1 => match rest with
  | [] => matRsS H D.rows 0 ρ1 fun xr ρ => match below D.rows.length ρ && injOk (froms ρ D.rows 0) && deads H ρ D.rows 0 && slsOk D with
   | true => k (xr, xv) ρ
   | false => False
  | _ => False
theorem matVS_elim {H : Heap} : (p : VP) → {l : List AV} → {ρ : Rho} → {k : p.den → List AV → Rho → Prop} → matVS H p l ρ k → ∃ x l' ρ', matV H p l ρ = some (x, l', ρ') ∧ k x l' ρ'
 | .bool, l, ρ, k, h => by
  simp only [matVS] at h
  obtain ⟨x, l', hd, hk⟩ := decS_elim .bool (k := fun x l => k x l ρ) h
  simp only [dec] at hd
  exact ⟨x, l', ρ, by simp only [matV, hd, Option.map_some], hk⟩
 | .int kd, l, ρ, k, h => by
  simp only [matVS] at h
  obtain ⟨x, l', hd, hk⟩ := decS_elim (.int kd) (k := fun x l => k x l ρ) h
  simp only [dec] at hd
  exact ⟨x, l', ρ, by simp only [matV, hd, Option.map_some], hk⟩
 | .num kd, l, ρ, k, h => by
  simp only [matVS] at h
  obtain ⟨x, l', hd, hk⟩ := decS_elim (.int kd) (k := fun x l => k x l ρ) h
  simp only [dec] at hd
  exact ⟨x, l', ρ, by simp only [matV, hd, Option.map_some], hk⟩
 | .byte, l, ρ, k, h => by
  simp only [matVS] at h
  obtain ⟨x, l', hd, hk⟩ := decS_elim .byte (k := fun x l => k x l ρ) h
  simp only [dec] at hd
  exact ⟨x, l', ρ, by simp only [matV, hd, Option.map_some], hk⟩
 | .str, l, ρ, k, h => by
  simp only [matVS] at h
  obtain ⟨x, l', hd, hk⟩ := decS_elim .str (k := fun x l => k x l ρ) h
  simp only [dec] at hd
  exact ⟨x, l', ρ, by simp only [matV, hd, Option.map_some], hk⟩
 | .vec t, l, ρ, k, h => by
  simp only [matVS] at h
  unfold matDatS at h
  split at h
  ·split at h
   ·rename_i hg
    split at h
    ·rename_i ht
     split at h
     ·rename_i hb
      simp only [Bool.and_eq_true] at hb
      obtain ⟨h1, h2⟩ := need_elim h
      exact ⟨_, _, ρ, by simp only [matV, matDat, hg, dif_pos ht]; rw [if_pos ⟨Nat.eq_of_beq_eq_true hb.1.1, Nat.eq_of_beq_eq_true hb.1.2, Nat.eq_of_beq_eq_true hb.2, h1⟩]; rfl, h2⟩
     ·exact h.elim
    ·exact h.elim
   ·exact h.elim
  ·rename_i hn
   obtain ⟨x, l', hd, hk⟩ := decS_elim (.sl t) (k := fun x l => k x l ρ) h
   simp only [dec] at hd
   have e : matDat H t l = decSl t l := by
    unfold matDat
    split
    ·rename_i b r n z l'; exact absurd rfl (hn b r n z l')
    ·rfl
   exact ⟨x, l', ρ, by simp only [matV, e, hd, Option.map_some], hk⟩
 | .lit v, l, ρ, k, h => by
  simp only [matVS] at h
  unfold matLitS at h
  split at h
  ·split at h
   ·rename_i hl; exact ⟨(), _, ρ, by simp only [matV, matLit, if_pos hl, Option.map_some], h⟩
   ·exact h.elim
  ·exact h.elim
 | .ptr g e z o, l, ρ, k, h => by
  simp only [matVS] at h
  unfold matPtrS at h
  split at h
  ·split at h
   ·rename_i hc
    simp only [Bool.and_eq_true] at hc
    have hc' := And.intro (Nat.eq_of_beq_eq_true hc.1.1) (And.intro (Nat.eq_of_beq_eq_true hc.1.2) (Nat.eq_of_beq_eq_true hc.2))
    split at h
    ·rename_i hf; exact ⟨(), _, _, by simp only [matV, matPtr, if_pos hc', hf, Option.map_some], h⟩
    ·rename_i g' hf
     split at h
     ·rename_i hg; exact ⟨(), _, _, by simp only [matV, matPtr, if_pos hc', hf, if_pos (Nat.eq_of_beq_eq_true hg), Option.map_some], h⟩
     ·exact h.elim
    ·exact h.elim
   ·exact h.elim
  ·exact h.elim
 | .sl g z, l, ρ, k, h => by
  simp only [matVS] at h
  unfold matSlS at h
  split at h
  ·split at h
   ·rename_i hf; exact ⟨(), _, _, by simp only [matV, matSl, hf, Option.map_some], h⟩
   ·rename_i hf; exact ⟨(), _, _, by simp only [matV, matSl, hf, Option.map_some], h⟩
   ·exact h.elim
  ·split at h
   ·rename_i hc
    simp only [Bool.and_eq_true] at hc
    have hc' := And.intro (Nat.eq_of_beq_eq_true hc.1.1) (And.intro (Nat.eq_of_beq_eq_true hc.1.2) (Nat.eq_of_beq_eq_true hc.2))
    split at h
    ·rename_i hf; exact ⟨(), _, _, by simp only [matV, matSl, if_pos hc', hf, Option.map_some], h⟩
    ·rename_i g' hf
     split at h
     ·rename_i hg
      obtain ⟨m, hm, h⟩ := must_elim h
      obtain ⟨h1, h2⟩ := need_elim h
      exact ⟨(), _, _, by simp only [matV, matSl, if_pos hc', hf]; rw [if_pos ⟨Nat.eq_of_beq_eq_true hg, h1.1, by rw [hm, h1.2]⟩]; rfl, h2⟩
     ·exact h.elim
    ·rename_i g' e' n' z0 hf
     split at h
     ·rename_i hg
      simp only [Bool.and_eq_true] at hg
      obtain ⟨h1, h2⟩ := need_elim h
      exact ⟨(), _, _, by simp only [matV, matSl, if_pos hc', hf]; rw [if_pos ⟨Nat.eq_of_beq_eq_true hg.1, h1.1, h1.2, Nat.eq_of_beq_eq_true hg.2⟩]; rfl, h2⟩
     ·exact h.elim
    ·exact h.elim
   ·exact h.elim
  ·split at h
   ·rename_i hz
    split at h
    ·rename_i hf; exact ⟨(), _, _, by simp only [matV, matSl, if_pos (Nat.eq_of_beq_eq_true hz), hf, Option.map_some], h⟩
    ·exact h.elim
   ·exact h.elim
  ·exact h.elim
 | .part g z, l, ρ, k, h => by
  simp only [matVS] at h
  unfold matPartS at h
  split at h
  ·split at h
   ·rename_i hc
    simp only [Bool.and_eq_true] at hc
    have hc' := And.intro (Nat.eq_of_beq_eq_true hc.1.1) (And.intro (Nat.eq_of_beq_eq_true hc.1.2) (Nat.eq_of_beq_eq_true hc.2))
    split at h
    ·rename_i hf; exact ⟨_, _, _, by simp only [matV, matPart, if_pos hc', hf], h⟩
    ·rename_i g' hf
     split at h
     ·rename_i hg; exact ⟨_, _, _, by simp only [matV, matPart, if_pos hc', hf, if_pos (Nat.eq_of_beq_eq_true hg)], h⟩
     ·exact h.elim
    ·exact h.elim
   ·exact h.elim
  ·exact h.elim
 | .nil, l, ρ, k, h => ⟨(), l, ρ, rfl, h⟩
 | .cat a b, l, ρ, k, h => by
  simp only [matVS] at h
  obtain ⟨x, l1, ρ1, h1, h⟩ := matVS_elim a h
  obtain ⟨y, l2, ρ2, h2, h⟩ := matVS_elim b h
  exact ⟨_, _, _, by simp only [matV, h1, h2], h⟩
 | .agg p, l, ρ, k, h => by
  simp only [matVS] at h
  split at h
  ·obtain ⟨x, l1, ρ1, h1, h⟩ := matVS_elim p h
   split at h
   ·exact ⟨_, _, _, by simp only [matV, h1], h⟩
   ·exact h.elim
  ·exact h.elim
 | .tup p, l, ρ, k, h => by
  simp only [matVS] at h
  split at h
  ·obtain ⟨x, l1, ρ1, h1, h⟩ := matVS_elim p h
   split at h
   ·exact ⟨_, _, _, by simp only [matV, h1], h⟩
   ·exact h.elim
  ·exact h.elim
 | .func f p q, l, ρ, k, h => by
  simp only [matVS] at h
  split at h
  ·split at h
   ·rename_i hf
    obtain ⟨x, l1, ρ1, h1, h⟩ := matVS_elim p h
    split at h
    ·obtain ⟨y, l2, ρ2, h2, h⟩ := matVS_elim q h
     split at h
     ·exact ⟨_, _, _, by simp only [matV, if_pos hf, h1, h2], h⟩
     ·exact h.elim
    ·exact h.elim
   ·exact h.elim
  ·exact h.elim
theorem matVecS_elim {H : Heap} {t : Ty} {ro : Bool} {s : Src} {k : List t.den → Prop} (h : matVecS H t ro s k) : ∃ l, matVec H t ro s = some l ∧ k l := by
 unfold matVecS at h
 split at h
 ·split at h
  ·rename_i hg
   split at h
   ·rename_i ht
    split at h
    ·rename_i hr
     refine ⟨_, ?_, h⟩
     simp only [matVec, hg, dif_pos ht]
     rw [if_pos (by intro e; rw [e] at hr; simpa using hr)]
    ·exact h.elim
   ·exact h.elim
  ·exact h.elim
 ·split at h
  ·rename_i hz
   have hz' : ∀ {z : Nat}, (Nat.beq z t.z && !(Nat.beq z 0)) = true → z = t.z ∧ z ≠ 0 := by
    intro z hz
    simp only [Bool.and_eq_true, Bool.not_eq_true'] at hz
    exact ⟨Nat.eq_of_beq_eq_true hz.1, Nat.ne_of_beq_eq_false hz.2⟩
   have hz := hz' hz
   split at h
   ·rename_i hg
    split at h
    ·rename_i ht
     split at h
     ·obtain ⟨h1, h2⟩ := need_elim h
      exact ⟨_, by simp only [matVec, if_pos hz, hg, dif_pos ht, if_pos h1], h2⟩
     ·split at h
      ·obtain ⟨h1, h2⟩ := need_elim h
       exact ⟨_, by simp only [matVec, if_pos hz, hg, dif_pos ht]; rw [if_pos ⟨h1.1, h1.2, trivial⟩], h2⟩
      ·exact h.elim
    ·exact h.elim
   ·rename_i hg
    split at h
    ·rename_i ht
     split at h
     ·obtain ⟨h1, h2⟩ := need_elim h
      exact ⟨_, by simp only [matVec, if_pos hz, hg, dif_pos ht, if_pos h1], h2⟩
     ·exact h.elim
    ·exact h.elim
   ·rename_i hg
    split at h
    ·split at h
     ·rename_i hb
      obtain ⟨l, hl, hk⟩ := decLS_elim h
      exact ⟨l, by simp only [matVec, if_pos hz, hg, if_pos (Nat.le_of_ble_eq_true hb), hl], hk⟩
     ·exact h.elim
    ·split at h
     ·rename_i hb
      obtain ⟨l, hl, hk⟩ := decLS_elim h
      simp only [Bool.and_eq_true, Bool.not_eq_true'] at hb
      exact ⟨l, by simp only [matVec, if_pos hz, hg]; rw [if_pos ⟨Nat.eq_of_beq_eq_true hb.1.1, Nat.eq_of_beq_eq_true hb.1.2, hb.2⟩, hl], hk⟩
     ·exact h.elim
   ·exact h.elim
  ·exact h.elim
 ·exact ⟨[], rfl, h⟩
 ·split at h
  ·rename_i ht
   split at h
   ·rename_i hc
    simp only [Bool.and_eq_true, Bool.not_eq_true'] at hc
    exact ⟨_, by simp only [matVec, dif_pos ht]; rw [if_pos ⟨hc.1, Nat.ne_of_beq_eq_false hc.2⟩], h⟩
   ·exact h.elim
  ·exact h.elim
theorem matRS_elim {H : Heap} : (r : RP) → {s : Option Src} → {ρ : Rho} → {k : r.den → Rho → Prop} → matRS H r s ρ k → ∃ x ρ', matR H r s ρ = some (x, ρ') ∧ k x ρ'
 | .dead, s, ρ, k, h => ⟨(), ρ, rfl, h⟩
 | .vec t e ro, s, ρ, k, h => by
  simp only [matRS] at h
  split at h
  ·obtain ⟨l, hl, hk⟩ := matVecS_elim h
   exact ⟨l, ρ, by simp only [matR, hl, Option.map_some], hk⟩
  ·exact h.elim
 | .cells p e ro, s, ρ, k, h => by
  simp only [matRS] at h
  split at h
  ·split at h
   ·rename_i hg
    split at h
    ·rename_i hr
     obtain ⟨x, l1, ρ1, h1, h⟩ := matVS_elim p h
     split at h
     ·refine ⟨_, _, ?_, h⟩
      simp only [matR, hg]
      rw [if_pos (by intro e; rw [e] at hr; simpa using hr), h1]
     ·exact h.elim
    ·exact h.elim
   ·exact h.elim
  ·exact h.elim
theorem matRsS_elim {H : Heap} : (rs : List RP) → {i : Nat} → {ρ : Rho} → {k : rowsDen rs → Rho → Prop} → matRsS H rs i ρ k → ∃ x ρ', matRs H rs i ρ = some (x, ρ') ∧ k x ρ'
 | [], i, ρ, k, h => ⟨(), ρ, rfl, h⟩
 | r :: rs, i, ρ, k, h => by
  simp only [matRsS] at h
  obtain ⟨x, ρ1, h1, h⟩ := matRS_elim r h
  obtain ⟨xs, ρ2, h2, h⟩ := matRsS_elim rs h
  exact ⟨_, _, by simp only [matRs, h1, h2], h⟩
theorem Dom.matS_elim {D : Dom} {vs : List AV} {H : Heap} {ρ0 : Rho} {k : D.den → Rho → Prop} (h : D.matS vs H ρ0 k) : ∃ x ρ, D.mat vs H ρ0 = some (x, ρ) ∧ k x ρ := by
 unfold Dom.matS at h
 obtain ⟨xv, l1, ρ1, h1, h⟩ := matVS_elim D.vals h
 split at h
 ·obtain ⟨xr, ρ2, h2, h⟩ := matRsS_elim D.rows h
  split at h
  ·rename_i hc
   simp only [Bool.and_eq_true] at hc
   refine ⟨_, _, ?_, h⟩
   unfold Dom.mat
   simp only [h1, h2]
   rw [if_pos ⟨hc.1.1.1, hc.1.1.2, hc.1.2, hc.2⟩]
  ·exact h.elim
 ·exact h.elim
mutual
def backS (W : Way) : AV → (AV → Prop) → Prop
 | .ptr t none, k => k (.ptr t none)
 | .ptr t (some r), k => match W.to r.g with
  | some (.row g) => k (.ptr t (some ⟨g, r.e, r.z, r.o⟩))
  | some (.win g e z) => match Nat.beq r.z z with
   | true => k (.ptr t (some ⟨g, e + r.e, r.z, r.o⟩))
   | false => False
  | some (.inl t' l) => match Nat.beq r.z t'.z with
   | true => k (.eptr t' l r.e r.o)
   | false => False
  | none => False
 | .slice t none n z, k => k (.slice t none n z)
 | .slice t (some r) n z, k => match W.to r.g with
  | some (.row g) => k (.slice t (some ⟨g, r.e, r.z, r.o⟩) n z)
  | some (.win g e z') => match Nat.beq r.z z' with
   | true => k (.slice t (some ⟨g, e + r.e, r.z, r.o⟩) n z)
   | false => False
  | some (.inl t' l) => match Nat.beq r.z t'.z && Nat.beq r.o 0 && Nat.beq z t'.z with
   | true => need true (r.e + n ≤ l.length) (k (.vec t' ((l.drop r.e).take n)))
   | false => False
  | none => False
 | .agg l, k => backLS W l fun l => k (.agg l)
 | .tup l, k => backLS W l fun l => k (.tup l)
 | .func f a b, k => backLS W a fun a => backLS W b fun b => k (.func f a b)
 | v, k => k v
def backLS (W : Way) : List AV → (List AV → Prop) → Prop
 | [], k => k []
 | v :: l, k => backS W v fun v => backLS W l fun l => k (v :: l)
end
mutual
theorem backS_elim {W : Way} : ∀ {v : AV} {k : AV → Prop}, backS W v k → ∃ v', back W v = some v' ∧ k v'
 | .ptr t none, k, h => by simp only [backS] at h; exact ⟨_, by simp only [back], h⟩
 | .ptr t (some r), k, h => by
  simp only [backS] at h
  split at h
  ·rename_i hd; exact ⟨_, by simp only [back, hd], h⟩
  ·rename_i hd
   split at h
   ·rename_i hz; exact ⟨_, by simp only [back, hd, if_pos (Nat.eq_of_beq_eq_true hz)], h⟩
   ·exact h.elim
  ·rename_i hd
   split at h
   ·rename_i hz; exact ⟨_, by simp only [back, hd, if_pos (Nat.eq_of_beq_eq_true hz)], h⟩
   ·exact h.elim
  ·exact h.elim
 | .slice t none n z, k, h => by simp only [backS] at h; exact ⟨_, by simp only [back], h⟩
 | .slice t (some r) n z, k, h => by
  simp only [backS] at h
  split at h
  ·rename_i hd; exact ⟨_, by simp only [back, hd], h⟩
  ·rename_i hd
   split at h
   ·rename_i hz; exact ⟨_, by simp only [back, hd, if_pos (Nat.eq_of_beq_eq_true hz)], h⟩
   ·exact h.elim
  ·rename_i hd
   split at h
   ·rename_i hc
    simp only [Bool.and_eq_true] at hc
    obtain ⟨h1, h2⟩ := need_elim h
    exact ⟨_, by simp only [back, hd]; rw [if_pos ⟨Nat.eq_of_beq_eq_true hc.1.1, Nat.eq_of_beq_eq_true hc.1.2, Nat.eq_of_beq_eq_true hc.2, h1⟩], h2⟩
   ·exact h.elim
  ·exact h.elim
 | .agg l, k, h => by
  simp only [backS] at h
  obtain ⟨l', hl, hk⟩ := backLS_elim (k := fun l => k (.agg l)) h
  exact ⟨_, by simp only [back, hl, Option.map_some], hk⟩
 | .tup l, k, h => by
  simp only [backS] at h
  obtain ⟨l', hl, hk⟩ := backLS_elim (k := fun l => k (.tup l)) h
  exact ⟨_, by simp only [back, hl, Option.map_some], hk⟩
 | .func f a b, k, h => by
  simp only [backS] at h
  obtain ⟨a', ha, h⟩ := backLS_elim (k := fun a => backLS W b fun b => k (.func f a b)) h
  obtain ⟨b', hb, hk⟩ := backLS_elim (k := fun b => k (.func f a' b)) h
  exact ⟨_, by simp only [back, ha, hb], hk⟩
 | .bool t b, k, h => by simp only [backS] at h; exact ⟨_, by simp only [back], h⟩
 | .int t kd n, k, h => by simp only [backS] at h; exact ⟨_, by simp only [back], h⟩
 | .str t s, k, h => by simp only [backS] at h; exact ⟨_, by simp only [back], h⟩
 | .vec t l, k, h => by simp only [backS] at h; exact ⟨_, by simp only [back], h⟩
 | .eptr t l e o, k, h => by simp only [backS] at h; exact ⟨_, by simp only [back], h⟩
 | .map r, k, h => by simp only [backS] at h; exact ⟨_, by simp only [back], h⟩
 | .nilFunc, k, h => by simp only [backS] at h; exact ⟨_, by simp only [back], h⟩
 | .nilIface, k, h => by simp only [backS] at h; exact ⟨_, by simp only [back], h⟩
theorem backLS_elim {W : Way} : ∀ {v : List AV} {k : List AV → Prop}, backLS W v k → ∃ v', backL W v = some v' ∧ k v'
 | [], k, h => by simp only [backLS] at h; exact ⟨_, by simp only [backL], h⟩
 | x :: l, k, h => by
  simp only [backLS] at h
  obtain ⟨x', hx, h⟩ := backS_elim (k := fun v => backLS W l fun l => k (v :: l)) h
  obtain ⟨l', hl, hk⟩ := backLS_elim (k := fun l => k (x' :: l)) h
  exact ⟨_, by simp only [backL, hx, hl], hk⟩
end
def backOS (W : Way) (o : Option AObj) (k : AObj → Prop) : Prop := match o with
 | none => k .dead
 | some .dead => k .dead
 | some (.cells cs e ro) => backLS W cs fun cs' => k (.cells cs' e ro)
 | some (.vec t l e ro) => k (.vec t l e ro)
 | some (.fro _ _ _) => False
theorem backOS_elim {W : Way} {o : Option AObj} {k : AObj → Prop} (h : backOS W o k) : ∃ o', backO W o = some o' ∧ k o' := by
 unfold backOS at h
 split at h
 ·exact ⟨_, rfl, h⟩
 ·exact ⟨_, rfl, h⟩
 ·obtain ⟨c, hc, hk⟩ := backLS_elim h; exact ⟨_, by simp only [backO, hc, Option.map_some], hk⟩
 ·exact ⟨_, rfl, h⟩
 ·exact h.elim
def backNewS (W : Way) (o : Option AObj) (k : AObj → Prop) : Prop := match o with
 | some (.cells cs e false) => backLS W cs fun cs' => k (.cells cs' e false)
 | some (.vec t l e false) => k (.vec t l e false)
 | some (.cells _ _ true) => False
 | some (.vec _ _ _ true) => False
 | some (.fro _ _ _) => False
 | _ => k .dead
theorem backNewS_elim {W : Way} {o : Option AObj} {k : AObj → Prop} (h : backNewS W o k) : ∃ o', backNew W o = some o' ∧ k o' := by
 unfold backNewS at h
 split at h
 ·obtain ⟨c, hc, hk⟩ := backLS_elim h; exact ⟨_, by simp only [backNew, hc, Option.map_some], hk⟩
 ·exact ⟨_, rfl, h⟩
 ·exact h.elim
 ·exact h.elim
 ·exact h.elim
 ·rename_i h1 h2 h3 h4 h5
  refine ⟨.dead, ?_, h⟩
  unfold backNew
  split
  ·rename_i cs e; exact absurd rfl (h1 cs e)
  ·rename_i t l e; exact absurd rfl (h2 t l e)
  ·rename_i cs e; exact absurd rfl (h3 cs e)
  ·rename_i t l e; exact absurd rfl (h4 t l e)
  ·rename_i t l e; exact absurd rfl (h5 t l e)
  ·rfl
def objsRwS (W : Way) (H1 : Heap) : List (Nat × Nat) → (List (Nat × AObj) → Prop) → Prop
 | [], k => k []
 | (g, i) :: l, k => backOS W (H1.get i) fun o => objsRwS W H1 l fun os => k ((g, o) :: os)
theorem objsRwS_elim {W : Way} {H1 : Heap} : ∀ {l : List (Nat × Nat)} {k : List (Nat × AObj) → Prop}, objsRwS W H1 l k → ∃ L, objsRw W H1 l = some L ∧ k L
 | [], k, h => ⟨[], rfl, h⟩
 | (g, i) :: l, k, h => by
  simp only [objsRwS] at h
  obtain ⟨o, ho, h⟩ := backOS_elim h
  obtain ⟨os, hos, h⟩ := objsRwS_elim h
  exact ⟨_, by simp only [objsRw, ho, hos], h⟩
def objsNewS (W : Way) (H1 : Heap) : List Nat → (List AObj → Prop) → Prop
 | [], k => k []
 | i :: l, k => match roNil W i with
  | true => backOS W (H1.get i) fun o => objsNewS W H1 l fun os => k (o :: os)
  | false => backNewS W (H1.get i) fun o => objsNewS W H1 l fun os => k (o :: os)
theorem objsNewS_elim {W : Way} {H1 : Heap} : ∀ {l : List Nat} {k : List AObj → Prop}, objsNewS W H1 l k → ∃ L, objsNew W H1 l = some L ∧ k L
 | [], k, h => ⟨[], rfl, h⟩
 | i :: l, k, h => by
  simp only [objsNewS] at h
  split at h
  ·rename_i hr
   obtain ⟨o, ho, h⟩ := backOS_elim h
   obtain ⟨os, hos, h⟩ := objsNewS_elim h
   exact ⟨_, by simp only [objsNew, hr, cond_true, ho, hos], h⟩
  ·rename_i hr
   obtain ⟨o, ho, h⟩ := backNewS_elim h
   obtain ⟨os, hos, h⟩ := objsNewS_elim h
   exact ⟨_, by simp only [objsNew, hr, cond_false, ho, hos], h⟩
def backHS (D : Dom) (ρ : Rho) (H H1 : Heap) (k : Heap → Prop) : Prop :=
 objsRwS (wayOf D ρ H H1) H1 (rwRows ρ D.rows 0) fun L => objsNewS (wayOf D ρ H H1) H1 (newRows ρ D.rows.length H1.n) fun NL => k (pushes (setsL H L) NL)
theorem backHS_elim {D : Dom} {ρ : Rho} {H H1 : Heap} {k : Heap → Prop} (h : backHS D ρ H H1 k) : ∃ H', backH D ρ H H1 = some H' ∧ k H' := by
 unfold backHS at h
 obtain ⟨L, hL, h⟩ := objsRwS_elim h
 obtain ⟨NL, hNL, h⟩ := objsNewS_elim h
 refine ⟨_, ?_, h⟩
 unfold backH
 unfold wayOf at hL hNL
 simp only [hL, hNL]
structure Con where
 D : Dom
 A : Dom
 B : Dom := ⟨[], .nil⟩
 pre : D.den → Prop := fun _ => True
 spec : D.den → A.den ⊕ B.den
 use : D.den → (A.den → Prop) → (B.den → Prop) → Prop := fun x ka kb => match spec x with
  | .inl y => ka y
  | .inr y => kb y
 ok : ∀ x ka kb, use x ka kb → (match spec x with
  | .inl y => ka y
  | .inr y => kb y) := by intro x ka kb h; exact h
def Dom.one (D : Dom) (y : D.den) : AV := match D.args y with
 | [v] => v
 | _ => .tup []
def Con.val (C : Con) (x : C.D.den) : AV := match C.spec x with
 | .inl y => C.A.one y
 | .inr y => C.B.one y
def Con.heap (C : Con) (x : C.D.den) : Heap := match C.spec x with
 | .inl y => C.A.heap y
 | .inr y => C.B.heap y
def CallsTo (P : Program) (f : FuncId) (args : List AV) (H : Heap) (v : AV) (H' : Heap) : Prop :=
 ∀ (β : At) (w : World) (cargs : Array Value), Rel β H w → VsRel H.n β args cargs.toList →
  Calls P f cargs w fun e w' => ∃ β' c, e = .returned c ∧ Rel β' H' w' ∧ Le β H w β' H' w' ∧ VRel H'.n β' v c
def ConOk (P : Program) (f : FuncId) (C : Con) : Prop := ∀ x, C.pre x → CallsTo P f (C.D.args x) (C.D.heap x) (C.val x) (C.heap x)
abbrev Book := FuncId → List AV → Option Con
def BookOk (P : Program) (T : Book) : Prop := ∀ f args C, T f args = some C → ConOk P f C
def noDead (D : Dom) : Bool := D.rows.all fun r => !r.dead?
open Classical in
noncomputable def Book.cl (T : Book) : Caller := fun f args H => match T f args with
 | none => none
 | some C => match C.D.mat args H [] with
  | none => none
  | some (x, ρ) => if C.pre x ∧ noDead C.D = true then
    match back (wayOf C.D ρ H (C.heap x)) (C.val x), backH C.D ρ H (C.heap x) with
    | some v, some H' => some (v, H')
    | _, _ => none
   else none
def Book.S (T : Book) : Handler := fun f args H k => match T f args with
 | none => False
 | some C => match noDead C.D with
  | true => C.D.matS args H [] fun x ρ => C.pre x ∧ (C.use x
    (fun y => forceH (C.A.heap y) fun H1 => backS (wayOf C.D ρ H H1) (C.A.one y) fun v => backHS C.D ρ H H1 fun H' => k v H')
    (fun y => forceH (C.B.heap y) fun H1 => backS (wayOf C.D ρ H H1) (C.B.one y) fun v => backHS C.D ρ H H1 fun H' => k v H'))
  | false => False
theorem Book.cls (T : Book) : ClS T.S T.cl := by
 intro f args H k h
 unfold Book.S at h
 unfold Book.cl
 split at h
 ·exact h.elim
 ·rename_i C hC
  split at h
  ·rename_i hnd
   obtain ⟨x, ρ, hm, h⟩ := Dom.matS_elim h
   obtain ⟨hp, h⟩ := h
   have h := C.ok _ _ _ h
   simp only [hm, if_pos (And.intro hp hnd)]
   unfold Con.val Con.heap
   split at h
   ·rename_i y hy
    obtain ⟨v, hv, h⟩ := backS_elim (forceH_elim h)
    obtain ⟨H', hH, h⟩ := backHS_elim h
    simp only [hy, hv, hH]
    exact ⟨v, H', rfl, h⟩
   ·rename_i y hy
    obtain ⟨v, hv, h⟩ := backS_elim (forceH_elim h)
    obtain ⟨H', hH, h⟩ := backHS_elim h
    simp only [hy, hv, hH]
    exact ⟨v, H', rfl, h⟩
  ·exact h.elim
theorem hlt_of {H : Heap} {β : At} {w : World} (hR : Rel β H w) {D : Dom} {x : D.den} {ρ : Rho} {B : Nat → Option Base} {cs : List Value} (hc : Cast D x H β w ρ B cs) : ∀ i r g, D.rows[i]? = some r → r.rw = true → Src.row? (ρ.find i) = some g → g < H.n := by
 intro i r g hr hrw hs
 obtain ⟨s, bs, hs', _, _, _, hm⟩ := hc.row i r hr (live_of_rw hrw)
 rw [hs'] at hs
 rcases hm hrw with ⟨h, _⟩ | ⟨g', c, e, hg', _, hrow⟩
 ·subst h; cases hs
 ·rw [hs] at hg'; cases hg'; exact hR.row_lt hrow
theorem Book.callOk {P : Program} {T : Book} (hT : BookOk P T) : CallOk P T.cl := by
 intro f args H v H' h β w cargs hR ha
 unfold Book.cl at h
 split at h
 ·cases h
 ·rename_i C hC
  split at h
  ·cases h
  ·rename_i x ρ hm
   split at h
   ·rename_i hp
    split at h
    ·rename_i v0 H0 hv hH
     cases h
     obtain ⟨B, hc, _, _⟩ := cast_sound hR hm ha (B0 := fun _ => none) (fun g s hs => by simp [Rho.find] at hs)
     have hnd : ∀ r, r ∈ C.D.rows → r.dead? = false := by
      have := hp.2
      unfold noDead at this
      intro r hr
      simpa using List.all_eq_true.1 this r hr
     refine (hT f args C hC x hp.1 (C.D.at_ β B) w cargs hc.rel (by rw [Dom.heap_n]; exact hc.args)).mono ?_
     rintro e w' ⟨β1, c, rfl, hR1, hLe, hv1⟩
     have hrows := backH_rows hR.fresh hc (hlt_of hR hc) hH
     obtain ⟨q1, q2, q3⟩ := frame_sound hR hc hnd hR1 hLe hrows
     exact ⟨_, c, rfl, q1, q2, q3 _ _ _ hv hv1⟩
    ·cases h
   ·cases h
theorem Book.later (T : Book) : ClLater T.cl := by
 intro f args H v H' h
 unfold Book.cl at h
 split at h
 ·cases h
 ·split at h
  ·cases h
  ·split at h
   ·split at h
    ·rename_i hH
     cases h
     unfold backH at hH
     split at hH
     ·rename_i L NL hL hNL
      cases hH
      have h1 : Later H (setsL H L) := by
       clear hL
       induction L with
       | nil => exact Later.refl _
       | cons p L ih => exact ih.trans (Later.set _ _ _)
      have h2 : ∀ (NL : List AObj) (H0 : Heap), Later H0 (pushes H0 NL) := by
       intro NL
       induction NL with
       | nil => intro H0; exact Later.refl _
       | cons o NL ih => intro H0; exact (Later.push _ _).trans (ih _)
      exact h1.trans (h2 _ _)
     ·cases hH
    ·cases h
   ·cases h
end Go.Vx
end
section
set_option linter.unusedVariables false
set_option linter.unusedSimpArgs false
namespace Go.Vx
def setsT : List Nat → List AV → Trie AV → Trie AV
 | i :: is, v :: vs, t => setsT is vs (t.set i v)
 | _, _, t => t
def tmOf (N : Nat) (live : List Nat) (vs : List AV) : Tm := { n := N, t := setsT live vs .leaf }
def valsOf (m : Tm) : List Nat → Option (List AV)
 | [] => some []
 | i :: l => match m.get i, valsOf m l with
  | some v, some vs => some (v :: vs)
  | _, _ => none
def setsK : List Nat → List AV → Trie AV → (Trie AV → Prop) → Prop
 | i :: is, v :: vs, t, k => setK (i + 1) t i v fun t => setsK is vs t k
 | [], _, t, k => k t
 | _ :: _, [], t, k => k t
theorem setsK_elim : ∀ {is : List Nat} {vs : List AV} {t : Trie AV} {k : Trie AV → Prop}, setsK is vs t k → k (setsT is vs t)
 | i :: is, v :: vs, t, k, h => by
  simp only [setsK] at h
  have := setK_elim h
  simp only [setsT]
  exact setsK_elim this
 | [], vs, t, k, h => by cases vs <;> simpa only [setsK, setsT] using h
 | _ :: _, [], t, k, h => by simpa only [setsK, setsT] using h
theorem valsOf_rel {N : Nat} {β : At} {m : Tm} {tmps : Array Value} (hT : TRel N β m tmps) : ∀ {l : List Nat} {vs : List AV}, valsOf m l = some vs → ∃ cs : List Value, VsRel N β vs cs ∧ cs.length = l.length ∧ ∀ (j i : Nat), l[j]? = some i → tmps[i]? = cs[j]?
 | [], vs, h => by simp only [valsOf, Option.some.injEq] at h; subst h; exact ⟨[], .nil, rfl, fun j i h => by simp at h⟩
 | i :: l, vs, h => by
  simp only [valsOf] at h
  split at h
  ·rename_i v vs' h1 h2
   cases h
   obtain ⟨c, hc, hr⟩ := hT.2 i v h1
   obtain ⟨cs, hcs, hl, hg⟩ := valsOf_rel hT h2
   refine ⟨c :: cs, .cons _ _ _ _ hr hcs, by simp [hl], fun j i' hj => ?_⟩
   cases j with
   | zero => simp at hj; subst hj; simpa using hc
   | succ j => simpa using hg j i' (by simpa using hj)
  ·cases h
theorem setsT_get : ∀ (is : List Nat) (vs : List AV) (t : Trie AV) (i : Nat) (v : AV), (setsT is vs t).get i = some v → (∃ j : Nat, is[j]? = some i ∧ vs[j]? = some v) ∨ t.get i = some v
 | [], vs, t, i, v, h => by cases vs <;> exact .inr h
 | _ :: _, [], t, i, v, h => .inr h
 | i0 :: is, v0 :: vs, t, i, v, h => by
  simp only [setsT] at h
  rcases setsT_get is vs _ i v h with ⟨j, h1, h2⟩ | h1
  ·exact .inl ⟨j + 1, by simpa using h1, by simpa using h2⟩
  ·rw [Trie.get_set] at h1
   split at h1
   ·rename_i e; cases h1; exact .inl ⟨0, by simp [e], by simp⟩
   ·exact .inr h1
theorem tmOf_rel {N n : Nat} {β : At} {tmps : Array Value} {live : List Nat} {vs : List AV} {cs : List Value} (hs : tmps.size = n) (hv : VsRel N β vs cs) (hg : ∀ (j i : Nat), live[j]? = some i → tmps[i]? = cs[j]?) : TRel N β (tmOf n live vs) tmps := by
 refine ⟨hs, fun i v h => ?_⟩
 unfold tmOf Tm.get at h
 simp only at h
 rcases setsT_get _ _ _ _ _ h with ⟨j, h1, h2⟩ | h1
 ·obtain ⟨c, hc, hr⟩ := hv.at j v h2
  exact ⟨c, by rw [hg j i h1]; exact hc, hr⟩
 ·rw [Trie.get_leaf] at h1; cases h1
def View' (D : Dom) (live : List Nat) (K : Nat) (m : Tm) (H : Heap) (k : D.den → Prop) : Prop :=
 match Nat.ble K D.rows.length with
 | true => must (valsOf m live) fun vs => D.matS vs H (keepK K) fun x _ => k x
 | false => False
theorem view_sound {D : Dom} {live : List Nat} {K : Nat} {m : Tm} {H : Heap} {k : D.den → Prop} (h : View' D live K m H k) {β : At} {w : World} (hR : Rel β H w) {S : Start} (hSK : S.H.n = K) (hS : S.le β H w) {tmps : Array Value} (hT : TRel H.n β m tmps) :
  ∃ x, k x ∧ ∃ β1, Rel β1 (D.heap x) w ∧ S.le β1 (D.heap x) w ∧ TRel (D.heap x).n β1 (tmOf m.n live (D.args x)) tmps := by
 unfold View' at h
 split at h
 ·rename_i hK
  obtain ⟨vs, hvs, h⟩ := must_elim h
  obtain ⟨x, ρ, hm, hk⟩ := Dom.matS_elim h
  obtain ⟨cs, hcs, _, hg⟩ := valsOf_rel hT hvs
  obtain ⟨β1, q1, q2, q3⟩ := recast hR hm (Nat.le_of_ble_eq_true hK) hcs hSK hS
  exact ⟨x, hk, β1, q1, q2, tmOf_rel hT.1 q3 hg⟩
 ·exact h.elim
def firstId : Code → Option Nat
 | .region id _ _ => some id
 | .seq a b => match firstId a with
  | some i => some i
  | none => firstId b
 | .cond _ a b => match firstId a with
  | some i => some i
  | none => firstId b
 | .block _ b => firstId b
 | .loop b => firstId b
 | _ => none
def isLoop (id : Nat) (b : Code) : Bool := match firstId b with
 | some i => Nat.beq i id
 | none => false
def loopsOf (c : Code) (id : Nat) : List Code := (loops c).filter (isLoop id)
def loopAt (c : Code) (id : Nat) : Code := match loopsOf c id with
 | [b] => b
 | _ => .skip
def oneLoop (c : Code) (id : Nat) : Bool := match loopsOf c id with
 | [_] => true
 | _ => false
theorem oneLoop_spec {c : Code} {id : Nat} (h : oneLoop c id = true) : loopsOf c id = [loopAt c id] := by
 unfold oneLoop at h
 unfold loopAt
 cases e : loopsOf c id with
 | nil => rw [e] at h; cases h
 | cons b t =>
  cases t with
  | nil => rfl
  | cons b' t => rw [e] at h; cases h
structure Lap where
 id : Nat
 N : Nat
 live : List Nat
 D : Dom
 oA : Out
 liveA : List Nat
 A : Dom
 oB : Out := .ret
 liveB : List Nat := []
 B : Dom := ⟨[], .nil⟩
 inv : D.den → Prop := fun _ => True
 /-- What may come out, at the one end, at the other. -/
 relA : D.den → A.den → Prop
 relB : D.den → B.den → Prop := fun _ _ => False
 use : D.den → (A.den → Prop) → (B.den → Prop) → Prop := fun x ka _ => ∀ y, relA x y → ka y
 ok : ∀ x ka kb, use x ka kb → (∀ y, relA x y → ka y) ∧ (∀ y, relB x y → kb y) := by intro x ka kb h; exact ⟨h, fun y hy => hy.elim⟩
def Lap.tm (l : Lap) (x : l.D.den) : Tm := tmOf l.N l.live (l.D.args x)
def Lap.tmA (l : Lap) (y : l.A.den) : Tm := tmOf l.N l.liveA (l.A.args y)
def Lap.tmB (l : Lap) (y : l.B.den) : Tm := tmOf l.N l.liveB (l.B.args y)
def Lap.behind (l : Lap) (x : l.D.den) (k : Out → Tm → Heap → Prop) : Prop :=
 (∀ y, l.relA x y → k l.oA (l.tmA y) (l.A.heap y)) ∧ ∀ y, l.relB x y → k l.oB (l.tmB y) (l.B.heap y)
def endT (o : Out) (N : Nat) (live : List Nat) (D : Dom) (k : Out → Tm → Heap → Prop) (y : D.den) : Prop :=
 forceL (D.args y) fun vs => setsK live vs .leaf fun t => forceH (D.heap y) fun H => k o ⟨N, t⟩ H
theorem endT_elim {o : Out} {N : Nat} {live : List Nat} {D : Dom} {k : Out → Tm → Heap → Prop} {y : D.den} (h : endT o N live D k y) : k o (tmOf N live (D.args y)) (D.heap y) := by
 unfold endT at h
 exact forceH_elim (setsK_elim (forceL_elim h))
def Lap.L (l : Lap) (K : Nat) (m : Tm) (H : Heap) (k : Out → Tm → Heap → Prop) : Prop :=
 match Nat.beq m.n l.N with
 | true => View' l.D l.live K m H fun x => l.inv x ∧ l.use x (endT l.oA l.N l.liveA l.A k) (endT l.oB l.N l.liveB l.B k)
 | false => False
def LapOk (P : Program) (K : Nat) (c : Code) (l : Lap) : Prop :=
 ∀ S : Start, S.H.n = K → ∀ x, l.inv x → ∀ k, l.behind x k → GoodIn P S (loopAt c l.id) (l.tm x) (l.D.heap x) k
def lapsL (K : Nat) : List Lap → LoopH
 | [], _, _, _, _ => none
 | l :: ls, b, m, H, k => match isLoop l.id b with
  | true => some (l.L K m H k)
  | false => lapsL K ls b m H k
theorem Wants.mono {S : Start} {d : Act} {k k' : Out → Tm → Heap → Prop} {Q : Exit → Act → World → Prop} (h : Wants S d k Q) (hk : ∀ o m H, k' o m H → k o m H) : Wants S d k' Q := fun o m H hq => h o m H (hk o m H hq)
theorem laps_ok {P : Program} {K : Nat} {c : Code} : ∀ {ls : List Lap}, (∀ l, l ∈ ls → LapOk P K c l ∧ oneLoop c l.id = true) → LInOk P K (loops c) (lapsL K ls)
 | [], _, S, hSK, b, hb, m, H, k, p, hp, h => by simp only [lapsL] at hp; cases hp
 | l :: ls, hls, S, hSK, b, hb, m, H, k, p, hp, h => by
  simp only [lapsL] at hp
  split at hp
  ·rename_i hi
   cases hp
   obtain ⟨hl, h1⟩ := hls l (by simp)
   have hbl : loopAt c l.id = b := by
    have hm : b ∈ loopsOf c l.id := List.mem_filter.2 ⟨hb, hi⟩
    rw [oneLoop_spec h1] at hm
    simp at hm
    exact hm.symm
   rw [← hbl]
   unfold Lap.L at h
   split at h
   ·rename_i hn
    have hn := Nat.eq_of_beq_eq_true hn
    intro a β w hR hS hT Q hQ
    obtain ⟨x, ⟨hinv, hu⟩, β1, q1, q2, q3⟩ := view_sound h hR hSK hS hT
    rw [hn] at q3
    refine hl S hSK x hinv k ?_ a β1 w q1 q2 q3 Q hQ
    have := l.ok _ _ _ hu
    exact ⟨fun y hy => endT_elim (this.1 y hy), fun y hy => endT_elim (this.2 y hy)⟩
   ·exact h.elim
  ·exact laps_ok (fun l hl => hls l (by simp [hl])) S hSK b hb m H k p hp h
def Lap.round (l : Lap) (K : Nat) (again : l.D.den → Prop) (qa : l.A.den → Prop) (qb : l.B.den → Prop) : Out → Tm → Heap → Prop := fun o m H =>
 match o with
 | .norm => match Nat.beq m.n l.N with
  | true => View' l.D l.live K m H again
  | false => False
 | o => match Nat.beq m.n l.N with
  | true => bif outEq o l.oA then View' l.A l.liveA K m H qa else bif outEq o l.oB then View' l.B l.liveB K m H qb else False
  | false => False
where outEq : Out → Out → Bool
 | .norm, .norm => true
 | .ret, .ret => true
 | .exit i, .exit j => Nat.beq i j
 | _, _ => false
theorem outEq_eq {a b : Out} (h : Lap.round.outEq a b = true) : a = b := by
 unfold Lap.round.outEq at h
 split at h
 ·rfl
 ·rfl
 ·rw [Nat.eq_of_beq_eq_true h]
 ·cases h
def HOk (P : Program) (S : Handler) : Prop := ∃ cl, ClS S cl ∧ CallOk P cl ∧ ClLater cl
theorem BookOk.hok {P : Program} {T : Book} (hT : BookOk P T) : HOk P T.S := ⟨T.cl, T.cls, T.callOk hT, T.later⟩
theorem lap_ok {P : Program} (hm : P.follows .mixedOrders = true) {S0 : Handler} (hS0 : HOk P S0) {K : Nat} {c : Code} {l : Lap} {ls : List Lap} (hls : ∀ l, l ∈ ls → LapOk P K c l ∧ oneLoop c l.id = true) (h1 : oneLoop c l.id = true) (hC : codeOk P (loopAt c l.id) = true) (n : Nat) (μ : l.D.den → Nat)
  (h : ∀ x, l.inv x → execS P S0 S0 (lapsL K ls) n (loopAt c l.id) (l.tm x) (l.D.heap x) (l.round K (fun x' => l.inv x' ∧ μ x' < μ x ∧ (∀ y, l.relA x' y → l.relA x y) ∧ ∀ y, l.relB x' y → l.relB x y) (l.relA x) (l.relB x))) : LapOk P K c l := by
 have hsub : ∀ b, b ∈ loops (loopAt c l.id) → b ∈ loops c := by
  have hb : loopAt c l.id ∈ loops c := by
   have : loopAt c l.id ∈ loopsOf c l.id := by rw [oneLoop_spec h1]; simp
   exact (List.mem_filter.1 this).1
  have key : ∀ (c : Code) (b : Code), b ∈ loops c → ∀ b', b' ∈ loops b → b' ∈ loops c := by
   intro c
   induction c with
   | seq x y ihx ihy =>
    intro b hb b' hb'
    simp only [loops, List.mem_append] at hb ⊢
    rcases hb with hb | hb
    ·exact .inl (ihx b hb b' hb')
    ·exact .inr (ihy b hb b' hb')
   | cond q x y ihx ihy =>
    intro b hb b' hb'
    simp only [loops, List.mem_append] at hb ⊢
    rcases hb with hb | hb
    ·exact .inl (ihx b hb b' hb')
    ·exact .inr (ihy b hb b' hb')
   | block id x ih => intro b hb b' hb'; exact ih b hb b' hb'
   | loop x ih =>
    intro b hb b' hb'
    simp only [loops, List.mem_cons] at hb ⊢
    rcases hb with rfl | hb
    ·exact .inr hb'
    ·exact .inr (ih b hb b' hb')
   | _ => intro b hb; simp [loops] at hb
  exact fun b hb' => key c _ hb b hb'
 intro S hSK x
 generalize hμ : μ x = N
 induction N using Nat.strongRecOn generalizing x with
 | ind N ih =>
  intro hinv k hk a β w hR hS hT' Q hQ
  subst hμ
  obtain ⟨cl, q1, q2, q3⟩ := hS0
  refine inLoop_round ((execS_good hm (SOk.of_cl q1 q2) q1 q2 q3 (laps_ok hls) hSK n).1 _ hC hsub (h x hinv) a β w hR hS hT' _ fun o m' H' hq β' a' w' hR' hS' hT2 hd' => ?_)
  unfold Lap.round at hq
  cases o with
  | norm =>
   simp only at hq
   split at hq
   ·rename_i hn
    obtain ⟨x', ⟨hinv', hlt, hsA, hsB⟩, β1, q1, q2, q3⟩ := view_sound hq hR' hSK hS' hT2
    rw [Nat.eq_of_beq_eq_true hn] at q3
    exact ih (μ x') hlt x' rfl hinv' k ⟨fun y hy => hk.1 y (hsA y hy), fun y hy => hk.2 y (hsB y hy)⟩ a' β1 w' q1 q2 q3 Q (hQ.defers hd')
   ·exact hq.elim
  | exit id =>
   simp only at hq
   split at hq
   ·rename_i hn
    cases e1 : Lap.round.outEq (.exit id) l.oA with
    | true =>
     rw [e1] at hq
     obtain ⟨y, hy, β1, q1, q2, q3⟩ := view_sound hq hR' hSK hS' hT2
     rw [Nat.eq_of_beq_eq_true hn] at q3
     have := hQ l.oA (l.tmA y) (l.A.heap y) (hk.1 y hy) β1 a' w' q1 q2 q3 hd'
     rw [← outEq_eq e1] at this
     exact this
    | false =>
     rw [e1] at hq
     cases e2 : Lap.round.outEq (.exit id) l.oB with
     | true =>
      rw [e2] at hq
      obtain ⟨y, hy, β1, q1, q2, q3⟩ := view_sound hq hR' hSK hS' hT2
      rw [Nat.eq_of_beq_eq_true hn] at q3
      have := hQ l.oB (l.tmB y) (l.B.heap y) (hk.2 y hy) β1 a' w' q1 q2 q3 hd'
      rw [← outEq_eq e2] at this
      exact this
     | false => rw [e2] at hq; exact hq.elim
   ·exact hq.elim
  | ret =>
   simp only at hq
   split at hq
   ·rename_i hn
    cases e1 : Lap.round.outEq .ret l.oA with
    | true =>
     rw [e1] at hq
     obtain ⟨y, hy, β1, q1, q2, q3⟩ := view_sound hq hR' hSK hS' hT2
     rw [Nat.eq_of_beq_eq_true hn] at q3
     have := hQ l.oA (l.tmA y) (l.A.heap y) (hk.1 y hy) β1 a' w' q1 q2 q3 hd'
     rw [← outEq_eq e1] at this
     exact this
    | false =>
     rw [e1] at hq
     cases e2 : Lap.round.outEq .ret l.oB with
     | true =>
      rw [e2] at hq
      obtain ⟨y, hy, β1, q1, q2, q3⟩ := view_sound hq hR' hSK hS' hT2
      rw [Nat.eq_of_beq_eq_true hn] at q3
      have := hQ l.oB (l.tmB y) (l.B.heap y) (hk.2 y hy) β1 a' w' q1 q2 q3 hd'
      rw [← outEq_eq e2] at this
      exact this
     | false => rw [e2] at hq; exact hq.elim
   ·exact hq.elim
def endZ (A : Dom) (v : AV) (H : Heap) (k : AV → Heap → Prop) : Prop := match A.vals with
 | .vec t => freezeS (meltNS (meltS t)) t v H k
 | _ => k v H
theorem endZ_sound {A : Dom} {v : AV} {H : Heap} {k : AV → Heap → Prop} {β : At} {w : World} {c : Value} (h : endZ A v H k) (hR : Rel β H w) (hv : VRel H.n β v c) : ∃ v' H' β', Rel β' H' w ∧ Le β H w β' H' w ∧ VRel H'.n β' v' c ∧ k v' H' := by
 unfold endZ at h
 split at h
 ·rename_i t _
  obtain ⟨v', H', h1, h2⟩ := freezeS_elim (meltNS_elim (meltS_elim t)) h
  obtain ⟨β', hm, hv'⟩ := freezeV_sound (meltN_sound (meltT_sound t)) h1 hR hv
  exact ⟨v', H', β', hm.rel, hm.le, by rw [hm.n]; exact hv', h2⟩
 ·exact ⟨v, H, β, hR, Le.refl _ _ _, hv, h⟩
def endC (K : Nat) (sel : AV → Bool) (A B : Dom) (qa : A.den → Prop) (qb : B.den → Prop) : AV → Heap → Prop := fun v H =>
 match sel v with
 | true => match Nat.ble K A.rows.length with
  | true => endZ A v H fun v H => A.matS [v] H (keepK K) fun y _ => qa y
  | false => False
 | false => match Nat.ble K B.rows.length with
  | true => B.matS [v] H (keepK K) fun y _ => qb y
  | false => False
theorem con_ok {P : Program} (hm : P.follows .mixedOrders = true) {S0 : Handler} (hS0 : HOk P S0) {f : FuncId} {fn : Func} {c : Code} (hf : P.funcs[f]? = some fn) (hb : fn.body = some c) (hC : codeOk P c = true) {C : Con} {ls : List Lap} (hls : ∀ l, l ∈ ls → LapOk P C.D.rows.length c l ∧ oneLoop c l.id = true) (n : Nat) (sel : AV → Bool)
  (hA : ∀ y, (C.A.args y).length = 1) (hB : (∀ y, (C.B.args y).length = 1) ∨ ∀ x y, C.pre x → C.spec x ≠ .inr y)
  (h : ∀ x, C.pre x → bodyS P S0 S0 (lapsL C.D.rows.length ls) n fn c (C.D.args x) (C.D.heap x) (endC C.D.rows.length sel C.A C.B (fun y => C.spec x = .inl y) (fun y => C.spec x = .inr y))) : ConOk P f C := by
 intro x hx β w cargs hR ha
 have hLn : (C.D.heap x).n = C.D.rows.length := C.D.heap_n x
 have hL : LInOk P (C.D.heap x).n (loops c) (lapsL C.D.rows.length ls) := by rw [hLn]; exact laps_ok hls
 obtain ⟨cl, q1, q2, q3⟩ := hS0
 refine (bodyS_good hm (SOk.of_cl q1 q2) q1 q2 q3 hf hb hC hL (h x hx) β w cargs hR ha).mono ?_
 rintro e w' ⟨v, H', hk, β', c', rfl, hR', hLe, hv⟩
 have hone : ∀ (D : Dom) (y : D.den), (D.args y).length = 1 → D.args y = [D.one y] := by
  intro D y hy
  unfold Dom.one
  cases h : D.args y with
  | nil => rw [h] at hy; simp at hy
  | cons v l =>
   rw [h] at hy
   have : l = [] := List.length_eq_zero_iff.1 (by simpa using hy)
   subst this
   rfl
 unfold endC at hk
 split at hk
 ·split at hk
  ·rename_i hK
   obtain ⟨v, H', β', hR', hLe2, hv, hk⟩ := endZ_sound hk hR' hv
   have hLe := hLe.trans hLe2
   obtain ⟨y, ρ, hmat, hq⟩ := Dom.matS_elim hk
   obtain ⟨β1, q1, q2, q3⟩ := recast hR' hmat (Nat.le_of_ble_eq_true hK) (.one hv) (S := ⟨β, C.D.heap x, w, hR.fresh⟩) hLn hLe
   have hval : C.val x = C.A.one y := by unfold Con.val; rw [hq]
   have hheap : C.heap x = C.A.heap y := by unfold Con.heap; rw [hq]
   rw [hone C.A y (hA y)] at q3
   refine ⟨β1, c', rfl, by rw [hheap]; exact q1, by rw [hheap]; exact q2, ?_⟩
   rw [hheap, hval]
   cases q3 with
   | cons _ _ _ _ h1 _ => exact h1
  ·exact hk.elim
 ·split at hk
  ·rename_i hK
   obtain ⟨y, ρ, hmat, hq⟩ := Dom.matS_elim hk
   obtain ⟨β1, q1, q2, q3⟩ := recast hR' hmat (Nat.le_of_ble_eq_true hK) (.one hv) (S := ⟨β, C.D.heap x, w, hR.fresh⟩) hLn hLe
   have hval : C.val x = C.B.one y := by unfold Con.val; rw [hq]
   have hheap : C.heap x = C.B.heap y := by unfold Con.heap; rw [hq]
   have hB1 : (C.B.args y).length = 1 := by
    rcases hB with h | h
    ·exact h y
    ·exact absurd hq (h x y hx)
   rw [hone C.B y hB1] at q3
   refine ⟨β1, c', rfl, by rw [hheap]; exact q1, by rw [hheap]; exact q2, ?_⟩
   rw [hheap, hval]
   cases q3 with
   | cons _ _ _ _ h1 _ => exact h1
  ·exact hk.elim
end Go.Vx
end
section
set_option linter.unusedVariables false
set_option linter.unusedSimpArgs false
namespace Go.Vx
section book
variable (P : Program) (T : Book)
noncomputable def clB : Nat → Caller
 | 0 => T.cl
 | n + 1 => fun f args H => match T f args with
  | some _ => T.cl f args H
  | none => match P.funcs[f]? with
   | some fn => match fn.body with
    | some c => bodyA P (clB n) 60 fn c args H
    | none => none
   | none => none
def bookS : Nat → Handler
 | 0 => T.S
 | n + 1 => fun f args H k => match T f args with
  | some _ => T.S f args H k
  | none => match P.funcs[f]? with
   | some fn => match fn.body with
    | some c => match codePl P c with
     | true => bodyS P (bookS n) (bookS n) (fun _ _ _ _ => none) 60 fn c args H k
     | false => False
    | none => False
   | none => False
end book
section sound
variable {P : Program} {T : Book}
theorem clB_sound (hm : P.follows .mixedOrders = true) (hT : BookOk P T) : ∀ n, CallOk P (clB P T n)
 | 0 => T.callOk hT
 | n + 1 => fun f args H v H' h => by
  simp only [clB] at h
  split at h
  ·exact T.callOk hT f args H v H' h
  ·split at h
   ·rename_i fn hf
    split at h
    ·rename_i c hb
     exact fun β w cargs hR ha => body_sound hm (clB_sound hm hT n) hf hb h hR ha
    ·cases h
   ·cases h
theorem clB_later : ∀ n, ClLater (clB P T n)
 | 0 => T.later
 | n + 1 => fun f args H v H' h => by
  simp only [clB] at h
  split at h
  ·exact T.later f args H v H' h
  ·split at h
   ·split at h
    ·unfold bodyA at h
     split at h
     ·split at h
      ·rename_i m H1 he
       obtain ⟨_, _, he2⟩ := map_some h
       simp only [Prod.mk.injEq] at he2
       rw [← he2.2]
       exact execA_later (clB_later n) 60 _ he
      ·rename_i m H1 he
       obtain ⟨_, _, he2⟩ := map_some h
       simp only [Prod.mk.injEq] at he2
       rw [← he2.2]
       exact execA_later (clB_later n) 60 _ he
      ·cases h
     ·cases h
    ·cases h
   ·cases h
theorem bookS_run : ∀ n, ClS (bookS P T n) (clB P T n)
 | 0 => T.cls
 | n + 1 => fun f args H k h => by
  simp only [bookS] at h
  simp only [clB]
  split at h
  ·rename_i C hC
   exact T.cls f args H k h
  ·split at h
   ·rename_i fn hf
    split at h
    ·rename_i c hc
     split at h
     ·rename_i hpl
      unfold bodyS at h
      split at h
      ·exact h.elim
      ·rename_i hl
       obtain ⟨o, m, H', he, h⟩ := execS_run (bookS_run n) (clB_later n) 60 c hpl h
       have hle : args.length ≤ fn.ntmps := Nat.le_of_ble_eq_true hl
       cases o with
       | norm =>
        obtain ⟨l, hr, hk⟩ := must_elim h
        exact ⟨_, _, by simp only [bodyA, if_pos hle, he, hr, Option.map_some], hk⟩
       | ret =>
        obtain ⟨l, hr, hk⟩ := must_elim h
        exact ⟨_, _, by simp only [bodyA, if_pos hle, he, hr, Option.map_some], hk⟩
       | exit id => exact h.elim
     ·exact h.elim
    ·exact h.elim
   ·exact h.elim
theorem bookS_ok (hm : P.follows .mixedOrders = true) (hT : BookOk P T) (n : Nat) : HOk P (bookS P T n) := ⟨clB P T n, bookS_run n, clB_sound hm hT n, clB_later n⟩
end sound
noncomputable def fnOf (P : Program) (f : Nat) : Func := (P.funcs[f]?).getD default
noncomputable def codeOf (P : Program) (f : Nat) : Code := match (fnOf P f).body with
 | some c => c
 | none => .skip
def isFn (P : Program) (f : Nat) : Bool := match P.funcs[f]? with
 | some fn => fn.body.isSome
 | none => false
theorem isFn_spec {P : Program} {f : Nat} (h : isFn P f = true) : P.funcs[f]? = some (fnOf P f) ∧ (fnOf P f).body = some (codeOf P f) := by
 unfold isFn at h
 unfold codeOf
 split at h
 ·rename_i fn hf
  have e : fnOf P f = fn := by unfold fnOf; rw [hf]; rfl
  rw [e]
  refine ⟨hf, ?_⟩
  cases hb : fn.body with
  | none => rw [hb] at h; cases h
  | some c => rfl
 ·cases h
theorem codeOk_of {P : Program} (hP : progOk P = true) {f : Nat} (h : isFn P f = true) : codeOk P (codeOf P f) = true := fn_ok hP (isFn_spec h).1 (isFn_spec h).2
theorem codeOk_loops {P : Program} : ∀ {c b : Code}, codeOk P c = true → b ∈ loops c → codeOk P b = true := by
 intro c
 induction c with
 | seq x y ihx ihy =>
  intro b hc hb
  simp only [codeOk, Bool.and_eq_true] at hc
  simp only [loops, List.mem_append] at hb
  rcases hb with hb | hb
  ·exact ihx hc.1 hb
  ·exact ihy hc.2 hb
 | cond q x y ihx ihy =>
  intro b hc hb
  simp only [codeOk, Bool.and_eq_true] at hc
  simp only [loops, List.mem_append] at hb
  rcases hb with hb | hb
  ·exact ihx hc.1 hb
  ·exact ihy hc.2 hb
 | block id x ih => intro b hc hb; exact ih (by simpa only [codeOk] using hc) hb
 | loop x ih =>
  intro b hc hb
  have hc : codeOk P x = true := by simpa only [codeOk] using hc
  simp only [loops, List.mem_cons] at hb
  rcases hb with rfl | hb
  ·exact hc
  ·exact ih hc hb
 | _ => intro b hc hb; simp [loops] at hb
def Con.run (P : Program) (T : Book) (d : Nat) (ls : List Lap) (f : Nat) (C : Con) (sel : AV → Bool) (x : C.D.den) (qa : C.A.den → Prop) (qb : C.B.den → Prop) : Prop :=
 bodyS P (bookS P T d) (bookS P T d) (lapsL C.D.rows.length ls) 100 (fnOf P f) (codeOf P f) (C.D.args x) (C.D.heap x) (endC C.D.rows.length sel C.A C.B qa qb)
def Lap.run (P : Program) (T : Book) (d K : Nat) (ls : List Lap) (f : Nat) (l : Lap) (x : l.D.den) (again : l.D.den → Prop) (qa : l.A.den → Prop) (qb : l.B.den → Prop) : Prop :=
 execS P (bookS P T d) (bookS P T d) (lapsL K ls) 100 (loopAt (codeOf P f) l.id) (l.tm x) (l.D.heap x) (l.round K again qa qb)
def LapsOk (P : Program) (K f : Nat) (ls : List Lap) : Prop := ∀ l, l ∈ ls → LapOk P K (codeOf P f) l ∧ oneLoop (codeOf P f) l.id = true
theorem LapsOk.nil {P : Program} {K f : Nat} : LapsOk P K f [] := fun l h => by simp at h
theorem LapsOk.cons {P : Program} {K f : Nat} {l : Lap} {ls : List Lap} (h : LapOk P K (codeOf P f) l) (h1 : oneLoop (codeOf P f) l.id = true) (hs : LapsOk P K f ls) : LapsOk P K f (l :: ls) := fun l' hl => by
 rcases List.mem_cons.1 hl with rfl | hl
 ·exact ⟨h, h1⟩
 ·exact hs l' hl
theorem Con.proved {P : Program} (hm : P.follows .mixedOrders = true) (hP : progOk P = true) {T : Book} (hT : BookOk P T) {f : Nat} {C : Con} (hf : isFn P f = true) {ls : List Lap} (hls : LapsOk P C.D.rows.length f ls) (d : Nat) (sel : AV → Bool)
  (hA : ∀ y, (C.A.args y).length = 1) (hB : (∀ y, (C.B.args y).length = 1) ∨ ∀ x y, C.pre x → C.spec x ≠ .inr y)
  (h : ∀ x, C.pre x → C.run P T d ls f sel x (fun y => C.spec x = .inl y) (fun y => C.spec x = .inr y)) : ConOk P f C :=
 con_ok hm (bookS_ok hm hT d) (isFn_spec hf).1 (isFn_spec hf).2 (codeOk_of hP hf) hls 100 sel hA hB h
theorem Lap.proved {P : Program} (hm : P.follows .mixedOrders = true) (hP : progOk P = true) {T : Book} (hT : BookOk P T) {K f : Nat} {l : Lap} (hf : isFn P f = true) (h1 : oneLoop (codeOf P f) l.id = true) {ls : List Lap} (hls : LapsOk P K f ls) (d : Nat) (μ : l.D.den → Nat)
  (h : ∀ x, l.inv x → l.run P T d K ls f x (fun x' => l.inv x' ∧ μ x' < μ x ∧ (∀ y, l.relA x' y → l.relA x y) ∧ ∀ y, l.relB x' y → l.relB x y) (l.relA x) (l.relB x)) : LapOk P K (codeOf P f) l := by
 refine lap_ok hm (bookS_ok hm hT d) hls h1 ?_ 100 μ h
 have : loopAt (codeOf P f) l.id ∈ loopsOf (codeOf P f) l.id := by rw [oneLoop_spec h1]; simp
 exact codeOk_loops (codeOk_of hP hf) (List.mem_filter.1 this).1
def Book.none : Book := fun _ _ => .none
theorem BookOk.none (P : Program) : BookOk P Book.none := fun f args C h => by cases h
def Book.add (T : Book) (f : FuncId) (C : Con) : Book := fun g args => match Nat.beq g f with
 | true => some C
 | false => T g args
theorem BookOk.add {P : Program} {T : Book} (hT : BookOk P T) {f : FuncId} {C : Con} (h : ConOk P f C) : BookOk P (T.add f C) := fun g args C' hC => by
 unfold Book.add at hC
 split at hC
 ·rename_i e; cases hC; rw [Nat.eq_of_beq_eq_true e]; exact h
 ·exact hT g args C' hC
end Go.Vx
end
section
set_option linter.unusedVariables false
set_option linter.unusedSimpArgs false
namespace Go.Vx
open Go.ChangeShapes Go.WideShapes
def wfT : (t : Ty) → t.den → Prop
 | .bool, _ => True
 | .int k, n => (Lit.int k n).wf = true
 | .byte, _ => True
 | .str, s => s.length ≤ maxLen
 | .sl t, l => l.length ≤ maxLen ∧ ∀ x, x ∈ l → wfT t x
 | .unit, _ => True
 | .pair a b, x => wfT a x.1 ∧ wfT b x.2
def wfV : (p : VP) → p.den → Prop
 | .int k, n => (Lit.int k n).wf = true
 | .str, s => s.length ≤ maxLen
 | .vec t, l => l.length ≤ maxLen ∧ ∀ x, x ∈ l → wfT t x
 | .cat a b, x => wfV a x.1 ∧ wfV b x.2
 | .agg l, x => wfV l x
 | .tup l, x => wfV l x
 | _, _ => True
def tyIn (P : Program) : Ty → (TypeId ⊕ (Nat × List Field)) → Bool
 | .bool, .inl t => match P.underlying t with
  | some .bool => true
  | _ => false
 | .int k, .inl t => match P.underlying t with
  | some (.int q) => decide (k = q)
  | _ => false
 | .byte, .inl t => match P.underlying t with
  | some (.int q) => decide (q = .u8)
  | _ => false
 | .str, .inl t => match P.underlying t with
  | some .string => true
  | _ => false
 | .sl T, .inl t => match P.underlying t with
  | some (.slice e) => decide (P.cellsOf e = T.z) && (decide (0 < T.z) && tyIn P T (.inl e))
  | _ => false
 | .unit, .inr (_, []) => true
 | .pair a b, .inl t => match P.underlying t with
  | some (.struct fs) => match fs.toList with
   | f :: fs => decide (P.cellsOf t = a.z + b.z) && (decide (f.offset = 0) && (decide (P.cellsOf f.type = a.z) && (tyIn P a (.inl f.type) && tyIn P b (.inr (a.z, fs)))))
   | [] => false
  | _ => false
 | .pair a b, .inr (off, f :: fs) => decide (f.offset = off) && (decide (P.cellsOf f.type = a.z) && (tyIn P a (.inl f.type) && tyIn P b (.inr (off + a.z, fs))))
 | _, _ => false
theorem list_of {α : Type} {p : Nat → α → Prop} : ∀ n : Nat, (∀ i, i < n → ∃ x, p i x) → ∃ l : List α, l.length = n ∧ ∀ i x, l[i]? = some x → p i x
 | 0, _ => ⟨[], rfl, fun i x h => by simp at h⟩
 | n + 1, h => by
  obtain ⟨l, hl, hp⟩ := list_of n fun i hi => h i (by omega)
  obtain ⟨x, hx⟩ := h n (by omega)
  refine ⟨l ++ [x], by simp [hl], fun i y hy => ?_⟩
  by_cases hi : i < n
  ·exact hp i y (by rwa [List.getElem?_append_left (by omega)] at hy)
  ·rw [List.getElem?_append_right (by omega), hl] at hy
   have : i = n := by
    have := (List.getElem?_eq_some_iff.1 hy).1
    simp at this; omega
   subst this
   simp at hy
   subst hy
   exact hx
theorem cells_at {w : World} {base : Nat} {a : Addr} {n : Nat} {cs : List Value} (h : w.cells? base a n = some cs) : cs.length = n ∧ ∀ i c, cs[i]? = some c → w.cell? ⟨a.block, a.off + i, none⟩ = some c := by
 unfold World.cells? at h
 split at h
 ·refine ⟨by simpa using mapM_some_length h, fun i c hc => ?_⟩
  have hi : i < n := by
   have := mapM_some_length h
   simp at this
   have := (List.getElem?_eq_some_iff.1 hc).1
   omega
  have := mapM_some_get h i i (by simp [hi])
  rw [hc] at this
  unfold Addr.add at this
  split at this
  ·rename_i e; subst e
   unfold World.cell? at this ⊢
   split at this
   ·split at this
    ·cases this
    ·rename_i h1 h2; simp only [h1]; simpa using this
   ·cases this
  ·exact this
 ·cases h
def Sees (β : At) (w : World) : Prop := ∀ b o c, w.cell? ⟨b, o, none⟩ = some c → β.imm b o = some c
section reads
variable {H : Type} {en : TypeId × Value → H} {P : Program} {w : World} {base : Nat} {sp : Nat → Bool} {hd : Bool}
theorem take_add_drop {α : Type} (cs : List α) (o x y : Nat) : (cs.drop o).take x ++ (cs.drop (o + x)).take y = (cs.drop o).take (x + y) := by
 rw [← List.drop_drop, List.take_add]
theorem read_ty : (T : Ty) →
  (∀ (t : TypeId) (cs : List Value) (fuel : Nat) (x : DataW H × List MemPlace), tyIn P T (.inl t) = true → DataW.trod en P w base sp hd fuel t cs = some x →
   ∃ d : T.den, wfT T d ∧ ∀ N β, Sees β w → VsRel N β (enc T d) cs) ∧
  (∀ (off : Nat) (fs : List Field) (cs : List Value) (n : Nat), tyIn P T (.inr (off, fs)) = true →
   (∀ f, f ∈ fs → ∃ x, DataW.trod en P w base sp hd n f.type ((cs.drop f.offset).take (P.cellsOf f.type)) = some x) →
   ∃ d : T.den, wfT T d ∧ ∀ N β, Sees β w → VsRel N β (enc T d) ((cs.drop off).take T.z))
 | .bool => ⟨fun t cs fuel x ht h => by
   simp only [tyIn] at ht
   split at ht
   ·rename_i hu
    obtain ⟨b, rfl, _⟩ := DataW.trod_bool hu h
    exact ⟨b, trivial, fun N β _ => .one (.bool _ _)⟩
   ·exact (Bool.false_ne_true ht).elim, fun off fs cs n ht => by simp [tyIn] at ht⟩
 | .int k => ⟨fun t cs fuel x ht h => by
   simp only [tyIn] at ht
   split at ht
   ·rename_i q hu
    have hq := of_decide_eq_true ht
    subst hq
    obtain ⟨n, rfl, _, hw⟩ := DataW.trod_int hu h
    exact ⟨n, hw, fun N β _ => .one (.int _ _ _)⟩
   ·exact (Bool.false_ne_true ht).elim, fun off fs cs n ht => by simp [tyIn] at ht⟩
 | .byte => ⟨fun t cs fuel x ht h => by
   simp only [tyIn] at ht
   split at ht
   ·rename_i q hu
    have hq := of_decide_eq_true ht
    subst hq
    obtain ⟨n, rfl, _, hw⟩ := DataW.trod_int hu h
    simp only [Lit.wf, Bool.and_eq_true, decide_eq_true_eq, IntKind.min, IntKind.max, IntKind.signed, IntKind.bits] at hw
    have h0 : 0 ≤ n := by simpa using hw.1
    have h1 : n < 256 := by have := hw.2; simp at this; omega
    refine ⟨UInt8.ofNat n.toNat, trivial, fun N β _ => ?_⟩
    have : n = ((UInt8.ofNat n.toNat).toNat : Int) := by simp [UInt8.toNat_ofNat']; omega
    conv => rhs; rw [this]
    exact .one (.int _ _ _)
   ·exact (Bool.false_ne_true ht).elim, fun off fs cs n ht => by simp [tyIn] at ht⟩
 | .str => ⟨fun t cs fuel x ht h => by
   simp only [tyIn] at ht
   split at ht
   ·rename_i hu
    obtain ⟨s, rfl, _, hw⟩ := DataW.trod_string hu h
    exact ⟨s.data.toList, (by show s.data.toList.length ≤ maxLen; simpa using hw), fun N β _ => .one (.str _ _ _ rfl)⟩
   ·exact (Bool.false_ne_true ht).elim, fun off fs cs n ht => by simp [tyIn] at ht⟩
 | .sl T => ⟨fun t cs fuel x ht h => by
   simp only [tyIn] at ht
   split at ht
   ·rename_i e hu
    simp only [Bool.and_eq_true, decide_eq_true_eq] at ht
    obtain ⟨hz, hz0, ht⟩ := ht
    rcases DataW.trod_slice hu h with ⟨rfl, _⟩ | ⟨a, len, cap, elems, rest, n, _, rfl, _, _, hl, hc, hlen, hel, _, _⟩
    ·refine ⟨[], ⟨by simp, fun x hx => by simp at hx⟩, fun N β _ => .one ?_⟩
     exact .vec T [] 0 none 0 0 (fun _ => .nilIface) (by simp) ⟨fun h => by simp at h, fun _ => rfl⟩ (fun k v h => by simp [encL] at h) (fun k v h => by simp [encL] at h)
    ·have hex : ∀ i, i < len → ∃ d : T.den, ∃ cs, w.cells? base (a.add (i * T.z)) T.z = some cs ∧ wfT T d ∧ ∀ N β, Sees β w → VsRel N β (enc T d) cs := fun i hi => by
      have h1 := hel i hi
      rw [hz, List.getElem?_eq_getElem (by omega)] at h1
      simp only [Option.bind_eq_some_iff] at h1
      obtain ⟨cs, hcs, h1⟩ := h1
      obtain ⟨d, hd1, hd2⟩ := (read_ty T).1 e cs n _ ht h1
      exact ⟨d, cs, hcs, hd1, hd2⟩
     obtain ⟨l, hll, hl'⟩ := list_of len hex
     subst hll
     refine ⟨l, ⟨by omega, fun x hx => ?_⟩, fun N β hs => .one ?_⟩
     ·obtain ⟨i, hi⟩ := List.getElem?_of_mem hx
      obtain ⟨_, _, h, _⟩ := hl' i x hi
      exact h
     ·have key : ∀ k v, (encL T l)[k]? = some v → ∃ c, w.cell? ⟨a.block, a.off + k, none⟩ = some c ∧ VRel N β v c ∧ (k = 0 → a.spot = none) := fun k v hk => by
       have hkl := (List.getElem?_eq_some_iff.1 hk).1
       rw [encL_length] at hkl
       have hi : k / T.z < l.length := Nat.div_lt_of_lt_mul (by rwa [Nat.mul_comm])
       have ho : k % T.z < T.z := Nat.mod_lt _ hz0
       have hk' : k / T.z * T.z + k % T.z = k := by rw [Nat.mul_comm]; exact Nat.div_add_mod _ _
       rw [← hk', encL_get T l _ _ hi ho] at hk
       obtain ⟨cs, hcs, _, hr⟩ := hl' (k / T.z) (l.getD (k / T.z) T.dflt) (by rw [List.getD_eq_getElem?_getD, List.getElem?_eq_getElem hi]; rfl)
       obtain ⟨c, hc, hrel⟩ := (hr N β hs).at _ _ hk
       have hcell := (cells_at hcs).2 _ _ hc
       refine ⟨c, ?_, hrel, fun h0 => ?_⟩
       ·rw [← hk']
        unfold Addr.add at hcell
        split at hcell
        ·rename_i e; rw [e, Nat.zero_add]; exact hcell
        ·rw [← Nat.add_assoc]; exact hcell
       ·subst h0
        have hd0 : (0 : Nat) / T.z = 0 := Nat.zero_div _
        rw [hd0, Nat.zero_mul] at hcs
        unfold World.cells? at hcs
        split at hcs
        ·have h0 := mapM_some_get hcs 0 0 (List.getElem?_range hz0)
         have hl0 := mapM_some_length hcs
         simp at hl0
         rw [List.getElem?_eq_getElem (by omega)] at h0
         simp only [Addr.add, if_true] at h0
         unfold World.cell? at h0
         split at h0
         ·split at h0
          ·cases h0
          ·rename_i h2; simpa using h2
         ·cases h0
        ·cases hcs
      refine .vec T l cap (some a) a.block a.off (fun k => (w.cell? ⟨a.block, a.off + k, none⟩).getD .nilIface) hl ⟨fun h0 => ?_, fun h => by cases h⟩ (fun k v hk => ?_) (fun k v hk => ?_)
      ·have : 0 < (encL T l).length := by rw [encL_length]; exact Nat.mul_pos h0 hz0
       obtain ⟨c, _, _, hsp⟩ := key 0 _ (List.getElem?_eq_getElem this)
       have := hsp rfl
       cases a; simp_all
      ·obtain ⟨c, hc, _, _⟩ := key k v hk
       simp only [hc, Option.getD_some]
       exact hs _ _ _ hc
      ·obtain ⟨c, hc, hr, _⟩ := key k v hk
       simp only [hc, Option.getD_some]
       exact hr
   ·exact (Bool.false_ne_true ht).elim, fun off fs cs n ht => by simp [tyIn] at ht⟩
 | .unit => ⟨fun t cs fuel x ht h => by simp [tyIn] at ht, fun off fs cs n ht hf => ⟨(), trivial, fun N β _ => by simpa [Ty.z, enc] using VsRel.nil⟩⟩
 | .pair a b => ⟨fun t cs fuel x ht h => by
   simp only [tyIn] at ht
   split at ht
   ·rename_i fs hu
    split at ht
    ·rename_i f fs' hfs
     simp only [Bool.and_eq_true, decide_eq_true_eq] at ht
     obtain ⟨hz, ho, hfz, ha, hb⟩ := ht
     obtain ⟨xs, n, _, _, hl, hlen, hf⟩ := DataW.trod_struct hu h
     have hall : ∀ g, g ∈ fs.toList → ∃ x, DataW.trod en P w base sp hd n g.type ((cs.drop g.offset).take (P.cellsOf g.type)) = some x := fun g hg => by
      obtain ⟨i, hi⟩ := List.getElem?_of_mem hg
      have hi' : fs[i]? = some g := by simpa using hi
      have := hf i g hi'
      have hlt : i < xs.length := by
       have := (Array.getElem?_eq_some_iff.1 hi').1
       omega
      rw [List.getElem?_eq_getElem hlt] at this
      exact ⟨_, this⟩
     obtain ⟨x0, h0⟩ := hall f (by rw [hfs]; simp)
     obtain ⟨d, hd1, hd2⟩ := (read_ty a).1 f.type _ _ _ ha h0
     obtain ⟨d', hd3, hd4⟩ := (read_ty b).2 a.z fs' cs n hb fun g hg => hall g (by rw [hfs]; simp [hg])
     refine ⟨(d, d'), ⟨hd1, hd3⟩, fun N β hs => ?_⟩
     have := (hd2 N β hs).append (hd4 N β hs)
     rw [ho, hfz] at this
     have e := take_add_drop cs 0 a.z b.z
     rw [Nat.zero_add] at e
     rw [e, List.drop_zero, List.take_of_length_le (by omega)] at this
     exact this
    ·cases ht
   ·exact (Bool.false_ne_true ht).elim, fun off fs cs n ht hf => by
   match fs, ht, hf with
   | f :: fs, ht, hf =>
    simp only [tyIn, Bool.and_eq_true, decide_eq_true_eq] at ht
    obtain ⟨ho, hfz, ha, hb⟩ := ht
    obtain ⟨x0, h0⟩ := hf f (by simp)
    obtain ⟨d, hd1, hd2⟩ := (read_ty a).1 f.type _ _ _ ha h0
    obtain ⟨d', hd3, hd4⟩ := (read_ty b).2 (off + a.z) fs cs n hb fun g hg => hf g (by simp [hg])
    refine ⟨(d, d'), ⟨hd1, hd3⟩, fun N β hs => ?_⟩
    have := (hd2 N β hs).append (hd4 N β hs)
    rw [ho, hfz, take_add_drop] at this
    exact this
   | [], ht, hf => simp [tyIn] at ht⟩
def tyVP : Ty → VP
 | .bool => .bool
 | .int k => .int k
 | .byte => .byte
 | .str => .str
 | .sl t => .vec t
 | .unit => .nil
 | .pair a b => .cat (tyVP a) (tyVP b)
theorem tyVP_of : (T : Ty) → (d : T.den) → wfT T d → ∃ x : (tyVP T).den, wfV (tyVP T) x ∧ ∀ len, encV (tyVP T) x len = enc T d
 | .bool, d, _ => ⟨d, trivial, fun _ => rfl⟩
 | .int k, d, h => ⟨d, h, fun _ => rfl⟩
 | .byte, d, _ => ⟨d, trivial, fun _ => rfl⟩
 | .str, d, h => ⟨d, h, fun _ => rfl⟩
 | .sl t, d, h => ⟨d, h, fun _ => rfl⟩
 | .unit, d, _ => ⟨(), trivial, fun _ => rfl⟩
 | .pair a b, d, h => by
  obtain ⟨x, hx, ex⟩ := tyVP_of a d.1 h.1
  obtain ⟨y, hy, ey⟩ := tyVP_of b d.2 h.2
  exact ⟨(x, y), ⟨hx, hy⟩, fun len => by simp only [tyVP, encV, enc, ex, ey]⟩
def argVP : Ty → VP
 | .pair a b => .agg (tyVP (.pair a b))
 | T => tyVP T
def parV : List Ty → VP
 | [] => .nil
 | [T] => argVP T
 | T :: Ts => .cat (argVP T) (parV Ts)
theorem read_arg {r : Reach} {b0 : Nat} {T : Ty} {t : TypeId} {v : Value} {d : DataW H} {ps : List MemPlace} (hT : tyIn P T (.inl t) = true) (hv : Value.okWide P w r b0 t v) (h : DataW.Trod en P w base sp hd t v d ps) :
  ∃ x : (argVP T).den, wfV (argVP T) x ∧ ∀ N β len, Sees β w → VsRel N β (encV (argVP T) x len) [v] := by
 obtain ⟨fuel, h⟩ := h
 obtain ⟨d', hd', hr⟩ := (read_ty T).1 t _ fuel _ hT h
 obtain ⟨x, hx, ex⟩ := tyVP_of T d' hd'
 cases T with
 | pair a b =>
  simp only [tyIn] at hT
  split at hT
  ·rename_i fs hu
   obtain ⟨cs, rfl, _⟩ := okWide_struct hu hv
   refine ⟨x, hx, fun N β len hs => .one (.agg _ _ ?_)⟩
   have := hr N β hs
   rw [← ex len] at this
   exact this
  ·cases hT
 | unit => simp [tyIn] at hT
 | bool =>
  simp only [tyIn] at hT
  split at hT
  ·rename_i hu
   obtain ⟨b, rfl⟩ := okWide_bool hu hv
   exact ⟨x, hx, fun N β len hs => by have := hr N β hs; rw [← ex len] at this; exact this⟩
  ·cases hT
 | int k =>
  simp only [tyIn] at hT
  split at hT
  ·rename_i q hu
   obtain ⟨b, rfl⟩ := okWide_int hu hv
   exact ⟨x, hx, fun N β len hs => by have := hr N β hs; rw [← ex len] at this; exact this⟩
  ·cases hT
 | byte =>
  simp only [tyIn] at hT
  split at hT
  ·rename_i q hu
   obtain ⟨b, rfl⟩ := okWide_int hu hv
   exact ⟨x, hx, fun N β len hs => by have := hr N β hs; rw [← ex len] at this; exact this⟩
  ·cases hT
 | str =>
  simp only [tyIn] at hT
  split at hT
  ·rename_i hu
   obtain ⟨b, rfl⟩ := okWide_string hu hv
   exact ⟨x, hx, fun N β len hs => by have := hr N β hs; rw [← ex len] at this; exact this⟩
  ·cases hT
 | sl T =>
  simp only [tyIn] at hT
  split at hT
  ·rename_i e hu
   obtain ⟨a, l, c, rfl⟩ := okWide_slice hu hv
   exact ⟨x, hx, fun N β len hs => by have := hr N β hs; rw [← ex len] at this; exact this⟩
  ·cases hT
def parsIn (P : Program) : List TypeId → List Ty → Bool
 | [], [] => true
 | t :: ts, T :: Ts => tyIn P T (.inl t) && parsIn P ts Ts
 | _, _ => false
theorem read_args {r : Reach} {b0 : Nat} : ∀ {ts : List TypeId} {Ts : List Ty} {vs : List Value} {ds : List (DataW H)} {ps : List MemPlace}, parsIn P ts Ts = true →
  (∀ (j : Nat) t v, ts[j]? = some t → vs[j]? = some v → Value.okWide P w r b0 t v) → DataW.TrodAll en P w base sp hd ts vs ds ps →
  ∃ x : (parV Ts).den, wfV (parV Ts) x ∧ ∀ N β len, Sees β w → VsRel N β (encV (parV Ts) x len) vs
 | [], [], vs, ds, ps, _, _, h => by
  obtain ⟨rfl, _, _⟩ := trodAll_nil h
  exact ⟨(), trivial, fun _ _ _ _ => .nil⟩
 | t :: ts, T :: Ts, vs, ds, ps, ht, hv, h => by
  simp only [parsIn, Bool.and_eq_true] at ht
  obtain ⟨v, vs', d, ds', p, q, rfl, _, _, h1, h2⟩ := trodAll_cons h
  obtain ⟨x, hx, hxr⟩ := read_arg ht.1 (hv 0 t v rfl rfl) h1
  obtain ⟨y, hy, hyr⟩ := read_args ht.2 (fun j t' v' h1 h2 => hv (j + 1) t' v' (by simpa using h1) (by simpa using h2)) h2
  cases Ts with
  | nil =>
   cases ts with
   | nil =>
    obtain ⟨rfl, _, _⟩ := trodAll_nil h2
    exact ⟨x, hx, fun N β len hs => hxr N β len hs⟩
   | cons a b => simp [parsIn] at ht
  | cons T' Ts' => exact ⟨(x, y), ⟨hx, hy⟩, fun N β len hs => (hxr N β len hs).append (hyr N β len hs)⟩
 | [], _ :: _, _, _, _, ht, _, _ => by simp [parsIn] at ht
 | _ :: _, [], _, _, _, ht, _, _ => by simp [parsIn] at ht
end reads
theorem Kept.sameAt {w w' : World} (h : Kept w w') {p : MemPlace} (hp : p.block < w.heap.size) : w.sameAt w' p := by
 have hk := h.1.2.2 p.block hp
 cases p with
 | cell b off =>
  show w'.cell? ⟨b, off, none⟩ = w.cell? ⟨b, off, none⟩
  simp only [MemPlace.block] at hk
  unfold World.cell?
  simp only
  split at hk
  ·rename_i c t fr c' t' fr' h1 h2
   rw [h1, h2]
   simp only [Option.isSome_none, Bool.false_eq_true, if_false]
   exact hk.2.2.2 off fun f => f
  ·rename_i h1 h2
   rw [h1, h2]
  ·rw [hk]
 | map b =>
  show w'.heap[b]? = w.heap[b]?
  simp only [MemPlace.block] at hk
  split at hk
  ·rename_i c t fr c' t' fr' h1 h2
   obtain ⟨rfl, rfl, _, he⟩ := hk
   have : c' = c := Array.ext_getElem? fun j => he j fun f => f
   rw [h1, h2, this]
  ·rename_i h1 h2
   rcases hk with f | ⟨rfl, rfl⟩
   ·exact f.elim
   ·rw [h1, h2]
  ·exact hk
section again
variable {H : Type} {en : TypeId × Value → H} {P : Program} {w w' : World} {base : Nat} {sp : Nat → Bool} {hd : Bool}
theorem trodAll_carry : ∀ {ts : List TypeId} {vs : List Value} {ds : List (DataW H)} {ps : List MemPlace}, DataW.TrodAll en P w base sp hd ts vs ds ps → (∀ p, p ∈ ps → w.sameAt w' p) → DataW.TrodAll en P w' base sp hd ts vs ds ps
 | [], [], [], _, h, _ => h
 | _ :: _, _ :: _, _ :: _, _, ⟨p, q, ⟨n, h1⟩, h2, e⟩, hs => ⟨p, q, ⟨n, DataW.trod_carry n _ _ _ h1 fun x hx => hs x (by rw [e]; exact List.mem_append_left _ hx)⟩, trodAll_carry h2 fun x hx => hs x (by rw [e]; exact List.mem_append_right _ hx), e⟩
theorem trodAll_length : ∀ {ts : List TypeId} {vs : List Value} {ds : List (DataW H)} {ps : List MemPlace}, DataW.TrodAll en P w base sp hd ts vs ds ps → ds.length = ts.length
 | [], [], [], _, _ => rfl
 | _ :: _, _ :: _, _ :: _, _, ⟨_, _, _, h2, _⟩ => by simp only [List.length_cons, trodAll_length h2]
theorem read_again (hl : laidOutB P = true) (hm : mapsRowed P = true)
  (hf : ((List.range P.types.size).all fun t => match P.underlying t with | some (.slice e) => decide (0 < P.cellsOf e) | _ => true) = true)
  {ts : List TypeId} (hts : (ts.all fun t => decide (t < P.types.size)) = true) {vs : List Value} {ds : List (DataW H)} {ps : List MemPlace} (h : DataW.TrodAll en P w 0 (fun _ => true) true ts vs ds ps) (hlt : ∀ p, p ∈ ps → p.block < w.heap.size) (hk : Kept w w')
  (hs : ∀ p, p ∈ ps → sp p.block = true) : DataW.TrodAll en P w' 0 sp true ts vs ds ps :=
 trodAll_carry (DataW.TrodAll.respare (kids_rows hl hm) (slices_full_of P hf) (fun t ht => by have := List.all_eq_true.1 hts t ht; simpa using this) h hs) fun p hp => hk.sameAt (hlt p hp)
end again
def lawCon (Ts : List Ty) : Con where
 D := ⟨[], parV Ts⟩
 A := ⟨[], .bool⟩
 pre := fun x => wfV (parV Ts) x.2
 spec := fun _ => .inl ((), true)
theorem law_calls {P : Program} {f : FuncId} {Ts : List Ty} (hC : ConOk P f (lawCon Ts)) {H : Type} {en : TypeId × Value → H} {w : World} {r : Reach} {b0 : Nat} {ts : List TypeId} {args : Array Value} {ds : List (DataW H)} {ps : List MemPlace}
  (ht : parsIn P ts Ts = true) (hv : ∀ (j : Nat) t v, ts[j]? = some t → args.toList[j]? = some v → Value.okWide P w r b0 t v) (hA : DataW.TrodAll en P w 0 (fun _ => true) true ts args.toList ds ps)
  (hG : GlobOk fun b o => w.cell? ⟨b, o, none⟩) (hT : TabsOk (fun b o => w.cell? ⟨b, o, none⟩) w) : Calls P f args w fun e w' => e = .returned (.bool true) ∧ Kept w w' := by
 obtain ⟨x, hx, hr⟩ := read_args ht hv hA
 have hR : Rel ⟨fun _ => none, fun b o => w.cell? ⟨b, o, none⟩⟩ Heap.empty w := rel_empty w _ (fun _ _ _ h => h) hG hT
 refine (hC ((), x) hx _ w args hR (Dom.args_eq (lawCon Ts).D ((), x) ▸ hr _ _ _ fun b o c h => h)).mono ?_
 rintro e w' ⟨β', c, rfl, hR', hLe, hv⟩
 have hv : VRel 0 β' (.bool true true) c := hv
 have hLe : Le _ Heap.empty w β' _ w' := hLe
 rw [bool_of hv]
 exact ⟨rfl, kept_of_le (fun g cs e h => by simp [Heap.empty, Heap.row, Heap.get, Trie.get_leaf] at h) hLe⟩
theorem glob_none (h : globInts = []) {i : Nat → Nat → Option Value} : GlobOk i := fun g hg => by rw [h] at hg; simp at hg
theorem tabs_none (h : globTabs = []) {i : Nat → Nat → Option Value} {w : World} : TabsOk i w := fun g k l hg => by rw [h] at hg; simp at hg
end Go.Vx
end
section
set_option linter.unusedVariables false
set_option linter.unusedSimpArgs false
namespace Go.Vx
class Eqb (α : Type) where
 eq : (a b : α) → Decidable (a = b)
instance : Eqb Int := ⟨fun a b => inferInstance⟩
instance : Eqb Nat := ⟨fun a b => inferInstance⟩
instance : Eqb Bool := ⟨fun a b => inferInstance⟩
instance : Eqb UInt8 := ⟨fun a b => inferInstance⟩
instance : Eqb Unit := ⟨fun a b => inferInstance⟩
instance {α β : Type} [Eqb α] [Eqb β] : Eqb (α × β) := ⟨@instDecidableEqProd α β Eqb.eq Eqb.eq⟩
instance {α β : Type} [Eqb α] [Eqb β] : Eqb (α ⊕ β) := ⟨@instDecidableEqSum α β Eqb.eq Eqb.eq⟩
instance {α : Type} [Eqb α] : Eqb (List α) := ⟨@instDecidableEqList α Eqb.eq⟩
inductive Tr (α : Type) : Type 1 where
 | ret (y : α)
 | bad
 | br (c : Bool) (a b : Tr α)
 | chk (p : Prop) [d : Decidable p] (a : Tr α)
 | ok (p : Prop) (h : p) (a : Tr α)
 | twice (a : Tr α)
 | two [d : Eqb α] (a b : Tr α)
 | call {β : Type} (o : Option β) (k : β → Tr α)
 | both {β γ : Type} (o : Option (β ⊕ γ)) (k : β → Tr α) (l : γ → Tr α)
abbrev Tr.okl {α : Type} (n : Nat) (a : Tr α) : Tr α := .ok ((0 : Nat) = (0 : Nat) ∧ n = n) ⟨rfl, rfl⟩ a
def Tr.wp {α : Type} : Tr α → (α → Prop) → Prop
 | .ret y, q => q y
 | .bad, _ => False
 | .br c a b, q => (c = true → a.wp q) ∧ (c = false → b.wp q)
 | @Tr.chk _ p _ a, q => p ∧ a.wp q
 | .ok p _ a, q => p ∧ a.wp q
 | .twice a, q => Twice (a.wp q) (a.wp q)
 | @Tr.two _ _ a b, q => Twice (a.wp q) (b.wp q)
 | .call o k, q => o ≠ none ∧ o ≠ none ∧ ∀ y, o = some y → (k y).wp q
 | .both o k l, q => o ≠ none ∧ o ≠ none ∧ (∀ y, o = some (.inl y) → (k y).wp q) ∧ ∀ y, o = some (.inr y) → (l y).wp q
def Tr.val {α : Type} : Tr α → Option α
 | .ret y => some y
 | .bad => none
 | .br c a b => bif c then a.val else b.val
 | @Tr.chk _ p d a => @ite _ p d a.val none
 | .ok _ _ a => a.val
 | .twice a => a.val
 | @Tr.two _ d a b => match a.val, b.val with
  | some x, some y => @ite _ (x = y) (d.eq x y) (some x) none
  | _, _ => none
 | .call o k => match o with
  | none => none
  | some y => (k y).val
 | .both o k l => match o with
  | none => none
  | some (.inl y) => (k y).val
  | some (.inr y) => (l y).val
theorem Tr.wp_of_val {α : Type} {q : α → Prop} : ∀ {t : Tr α} {y : α}, t.val = some y → q y → t.wp q
 | .ret z, y, h, hq => by simp only [Tr.val, Option.some.injEq] at h; subst h; exact hq
 | .bad, y, h, _ => by simp [Tr.val] at h
 | .br c a b, y, h, hq => by
  cases c with
  | true => exact ⟨fun _ => Tr.wp_of_val (t := a) (by simpa [Tr.val] using h) hq, fun e => by cases e⟩
  | false => exact ⟨fun e => (by cases e), fun _ => Tr.wp_of_val (t := b) (by simpa [Tr.val] using h) hq⟩
 | @Tr.chk _ p d a, y, h, hq => by
  simp only [Tr.val] at h
  split at h
  ·rename_i hp; exact ⟨hp, Tr.wp_of_val h hq⟩
  ·cases h
 | .ok p hp a, y, h, hq => ⟨hp, Tr.wp_of_val (t := a) h hq⟩
 | .twice a, y, h, hq => ⟨Tr.wp_of_val (t := a) h hq, Tr.wp_of_val (t := a) h hq⟩
 | @Tr.two _ _ a b, y, h, hq => by
  simp only [Tr.val] at h
  split at h
  ·rename_i x z ha hb
   split at h
   ·rename_i e
    subst e
    cases h
    exact ⟨Tr.wp_of_val ha hq, Tr.wp_of_val hb hq⟩
   ·cases h
  ·cases h
 | .call o k, y, h, hq => by
  cases o with
  | none => simp [Tr.val] at h
  | some z => exact ⟨by simp, by simp, fun z' e => by cases e; exact Tr.wp_of_val h hq⟩
 | .both o k l, y, h, hq => by
  match o, h with
  | none, h => simp [Tr.val] at h
  | some (.inl z), h => exact ⟨by simp, by simp, fun z' e => (by cases e; exact Tr.wp_of_val h hq), fun z' e => by cases e⟩
  | some (.inr z), h => exact ⟨by simp, by simp, fun z' e => (by cases e), fun z' e => by cases e; exact Tr.wp_of_val h hq⟩
section loops
variable {σ ρ : Type} (body : σ → Tr (σ ⊕ ρ))
def iter : Nat → σ → Option ρ
 | 0, _ => none
 | n + 1, s => match (body s).val with
  | none => none
  | some (.inl s') => iter n s'
  | some (.inr r) => some r
def rounds : Nat := 1125899906842624
def Loop (s : σ) : Option ρ := iter body rounds s
theorem iter_mono : ∀ (n : Nat) (s : σ) (r : ρ), iter body n s = some r → iter body (n + 1) s = some r := by
 intro n
 induction n with
 | zero => intro s r h; simp [iter] at h
 | succ n ih =>
  intro s r h
  rw [iter] at h ⊢
  split
  ·rename_i e; rw [e] at h; cases h
  ·rename_i s' e; rw [e] at h; exact ih s' r h
  ·rename_i r' e; rw [e] at h; exact h
theorem iter_le {n m : Nat} (h : n ≤ m) {s : σ} {r : ρ} (hr : iter body n s = some r) : iter body m s = some r := by
 obtain ⟨k, rfl⟩ := Nat.exists_eq_add_of_le h
 induction k with
 | zero => exact hr
 | succ k ih => exact iter_mono body _ _ _ (ih (by omega))
theorem least {p : Nat → Prop} (h : ∃ n, p n) : ∃ n, p n ∧ ∀ m, p m → n ≤ m := by
 obtain ⟨n, hn⟩ := h
 induction n using Nat.strongRecOn with
 | ind n ih =>
  by_cases e : ∃ m, m < n ∧ p m
  ·obtain ⟨m, hm, hp⟩ := e; exact ih m hm hp
  ·exact ⟨n, hn, fun m hm => Nat.le_of_not_lt fun hlt => e ⟨m, hlt, hm⟩⟩
open Classical in
noncomputable def turns (s : σ) : Nat := if h : ∃ n, iter body n s ≠ none then (least h).choose else 0
theorem turns_spec {s : σ} {n : Nat} (h : iter body n s ≠ none) : iter body (turns body s) s ≠ none ∧ turns body s ≤ n := by
 have h' : ∃ n, iter body n s ≠ none := ⟨n, h⟩
 unfold turns
 rw [dif_pos h']
 exact ⟨(least h').choose_spec.1, (least h').choose_spec.2 n h⟩
theorem Loop_round {s : σ} (h : Loop body s ≠ none) : ∃ x, (body s).val = some x ∧ (match x with
  | .inr r => Loop body s = some r
  | .inl s' => Loop body s' = Loop body s ∧ turns body s' < turns body s) := by
 obtain ⟨h1, h2⟩ := turns_spec body h
 cases hn : turns body s with
 | zero => rw [hn] at h1; simp [iter] at h1
 | succ n =>
  rw [hn] at h1 h2
  cases e : (body s).val with
  | none => rw [iter, e] at h1; exact absurd rfl h1
  | some x =>
   refine ⟨x, rfl, ?_⟩
   cases x with
   | inr r =>
    have : iter body (n + 1) s = some r := by rw [iter, e]
    exact iter_le body h2 this
   | inl s' =>
    have e1 : iter body (n + 1) s = iter body n s' := by rw [iter, e]
    rw [e1] at h1
    obtain ⟨_, h4⟩ := turns_spec body h1
    refine ⟨?_, by omega⟩
    cases hr : iter body n s' with
    | none => exact absurd hr h1
    | some r =>
     have a1 : Loop body s' = some r := iter_le body (by omega) hr
     have a2 : Loop body s = some r := iter_le body h2 (e1.trans hr)
     rw [a1, a2]
end loops
def VP.dflt : (p : VP) → p.den
 | .bool => false
 | .int _ => (0 : Int)
 | .num _ => (0 : Int)
 | .byte => (0 : UInt8)
 | .str => ([] : List UInt8)
 | .vec _ => []
 | .lit _ => ()
 | .ptr _ _ _ _ => ()
 | .sl _ _ => ()
 | .part _ _ => (0, 0)
 | .nil => ()
 | .cat a b => (a.dflt, b.dflt)
 | .agg l => l.dflt
 | .tup l => l.dflt
 | .func _ a b => (a.dflt, b.dflt)
def RP.dflt : (r : RP) → r.den
 | .vec _ _ _ => []
 | .cells p _ _ => p.dflt
 | .dead => ()
def rowsDflt : (l : List RP) → rowsDen l
 | [] => ()
 | r :: rs => (r.dflt, rowsDflt rs)
def Dom.dflt (D : Dom) : D.den := (rowsDflt D.rows, D.vals.dflt)
def tcon (D A : Dom) {α : Type} (pa : D.den → α → A.den) (F : D.den → Option α) : Con where
 D := D
 A := A
 pre := fun x => F x ≠ none
 spec := fun x => match F x with
  | some y => .inl (pa x y)
  | none => .inl A.dflt
 use := fun x ka _ => F x ≠ none ∧ ∀ y, F x = some y → ka (pa x y)
 ok := fun x ka kb h => by
  cases e : F x with
  | some y => exact h.2 y e
  | none => exact absurd e h.1
theorem tcon_ok {P : Program} (hm : P.follows .mixedOrders = true) (hP : progOk P = true) {T : Book} (hT : BookOk P T) {f : FuncId} {D A : Dom} {α : Type} {pa : D.den → α → A.den} {F : D.den → Option α}
  (hf : isFn P f = true) {ls : List Lap} (hls : LapsOk P D.rows.length f ls) (d : Nat) (hA : ∀ y, (A.args y).length = 1) (t : D.den → Tr α) (hF : ∀ x, F x = (t x).val)
  (h : ∀ x qa qb, (tcon D A pa F).run P T d ls f (fun _ => true) x qa qb = (t x).wp fun y => qa (pa x y)) : ConOk P f (tcon D A pa F) := by
 refine Con.proved hm hP hT hf hls d (fun _ => true) hA (.inr fun x y hx e => ?_) fun x hx => ?_
 ·simp only [tcon] at e
  split at e <;> cases e
 ·rw [h x]
  have hx : F x ≠ none := hx
  cases e : F x with
  | none => exact absurd e hx
  | some y =>
   refine Tr.wp_of_val ((hF x).symm.trans e) ?_
   simp only [tcon, e]
def Book.addS (T : Book) (f : FuncId) (sel : List AV → Bool) (C : Con) : Book := fun g args => match Nat.beq g f with
 | true => match sel args with
  | true => some C
  | false => T g args
 | false => T g args
theorem BookOk.addS {P : Program} {T : Book} (hT : BookOk P T) {f : FuncId} {sel : List AV → Bool} {C : Con} (h : ConOk P f C) : BookOk P (T.addS f sel C) := fun g args D hD => by
 unfold Book.addS at hD
 split at hD
 ·rename_i hg
  have := Nat.eq_of_beq_eq_true hg
  subst this
  split at hD
  ·cases hD; exact h
  ·exact hT _ _ _ hD
 ·exact hT _ _ _ hD
theorem law_ok {P : Program} {f : FuncId} {Ts : List Ty} {F : (lawCon Ts).D.den → Option Bool} (h : ConOk P f (tcon (lawCon Ts).D (lawCon Ts).A (fun _ y => ((), y)) F)) (ht : ∀ x, (lawCon Ts).pre x → F x = some true) : ConOk P f (lawCon Ts) := fun x hx => by
 have e := ht x hx
 have hx' : (tcon (lawCon Ts).D (lawCon Ts).A (fun _ y => ((), y)) F).pre x := by show F x ≠ none; rw [e]; simp
 have := h x hx'
 simp only [tcon, Con.val, Con.heap, e] at this
 exact this
def tlap (id N : Nat) (live : List Nat) (D : Dom) (oA : Out) (liveA : List Nat) (A : Dom) {α : Type} (pa : D.den → α → A.den) (F : D.den → Option α) : Lap where
 id := id
 N := N
 live := live
 D := D
 oA := oA
 liveA := liveA
 A := A
 inv := fun x => F x ≠ none
 relA := fun x y => ∃ a, F x = some a ∧ y = pa x a
 use := fun x ka _ => F x ≠ none ∧ ∀ y, F x = some y → ka (pa x y)
 ok := fun x ka kb h => ⟨fun y ⟨a, e, hy⟩ => by subst hy; exact h.2 a e, fun y h => h.elim⟩
theorem tlap_ok {P : Program} (hm : P.follows .mixedOrders = true) (hP : progOk P = true) {T : Book} (hT : BookOk P T) {K f id N : Nat} {live : List Nat} {D : Dom} {oA : Out} {liveA : List Nat} {A : Dom} {σ α : Type} {pa : D.den → α → A.den} {F : D.den → Option α}
  (hf : isFn P f = true) (h1 : oneLoop (codeOf P f) id = true) {ls : List Lap} (hls : LapsOk P K f ls) (d : Nat) (pk : D.den → σ → D.den) (un : D.den → σ) (body : D.den → σ → Tr (σ ⊕ α)) (hu : ∀ x s, un (pk x s) = s) (hb : ∀ x s, body (pk x s) = body x) (hp : ∀ x s, pa (pk x s) = pa x) (hF : ∀ x, F x = Loop (body x) (un x))
  (h : ∀ x again qa qb, (tlap id N live D oA liveA A pa F).run P T d K ls f x again qa qb = (body x (un x)).wp fun r => match r with
   | .inl s => again (pk x s)
   | .inr a => qa (pa x a)) : LapOk P K (codeOf P f) (tlap id N live D oA liveA A pa F) := by
 refine Lap.proved hm hP hT (l := tlap id N live D oA liveA A pa F) hf h1 hls d (fun x => turns (body x) (un x)) fun (x : D.den) (hx : F x ≠ none) => ?_
 rw [hF] at hx
 rw [h x]
 obtain ⟨r, e, hr⟩ := Loop_round (body x) hx
 refine Tr.wp_of_val e ?_
 cases r with
 | inr a => exact ⟨a, (hF x).trans hr, rfl⟩
 | inl s =>
  have e1 : F (pk x s) = F x := by rw [hF, hF, hu, hb]; exact hr.1
  refine ⟨?_, ?_, fun y ⟨a, h1, h2⟩ => ⟨a, e1.symm.trans h1, by rw [h2, hp]⟩, fun y h => h⟩
  ·show F (pk x s) ≠ none
   rw [e1, hF]; exact hx
  ·show turns (body (pk x s)) (un (pk x s)) < turns (body x) (un x)
   rw [hu, hb]; exact hr.2
def tlap2 (id N : Nat) (live : List Nat) (D : Dom) (oA : Out) (liveA : List Nat) (A : Dom) (oB : Out) (liveB : List Nat) (B : Dom) {α β : Type} (pa : D.den → α → A.den) (pb : D.den → β → B.den) (F : D.den → Option (α ⊕ β)) : Lap where
 id := id
 N := N
 live := live
 D := D
 oA := oA
 liveA := liveA
 A := A
 oB := oB
 liveB := liveB
 B := B
 inv := fun x => F x ≠ none
 relA := fun x y => ∃ a, F x = some (.inl a) ∧ y = pa x a
 relB := fun x y => ∃ a, F x = some (.inr a) ∧ y = pb x a
 use := fun x ka kb => F x ≠ none ∧ (∀ y, F x = some (.inl y) → ka (pa x y)) ∧ ∀ y, F x = some (.inr y) → kb (pb x y)
 ok := fun x ka kb h => ⟨fun y ⟨a, e, hy⟩ => by subst hy; exact h.2.1 a e, fun y ⟨a, e, hy⟩ => by subst hy; exact h.2.2 a e⟩
theorem tlap2_ok {P : Program} (hm : P.follows .mixedOrders = true) (hP : progOk P = true) {T : Book} (hT : BookOk P T) {K f id N : Nat} {live : List Nat} {D : Dom} {oA oB : Out} {liveA liveB : List Nat} {A B : Dom} {σ α β : Type} {pa : D.den → α → A.den} {pb : D.den → β → B.den} {F : D.den → Option (α ⊕ β)}
  (hf : isFn P f = true) (h1 : oneLoop (codeOf P f) id = true) {ls : List Lap} (hls : LapsOk P K f ls) (d : Nat) (pk : D.den → σ → D.den) (un : D.den → σ) (body : D.den → σ → Tr (σ ⊕ (α ⊕ β))) (hu : ∀ x s, un (pk x s) = s) (hb : ∀ x s, body (pk x s) = body x) (hp : ∀ x s, pa (pk x s) = pa x) (hp' : ∀ x s, pb (pk x s) = pb x) (hF : ∀ x, F x = Loop (body x) (un x))
  (h : ∀ x again qa qb, (tlap2 id N live D oA liveA A oB liveB B pa pb F).run P T d K ls f x again qa qb = (body x (un x)).wp fun r => match r with
   | .inl s => again (pk x s)
   | .inr (.inl a) => qa (pa x a)
   | .inr (.inr a) => qb (pb x a)) : LapOk P K (codeOf P f) (tlap2 id N live D oA liveA A oB liveB B pa pb F) := by
 refine Lap.proved hm hP hT (l := tlap2 id N live D oA liveA A oB liveB B pa pb F) hf h1 hls d (fun x => turns (body x) (un x)) fun (x : D.den) (hx : F x ≠ none) => ?_
 rw [hF] at hx
 rw [h x]
 obtain ⟨r, e, hr⟩ := Loop_round (body x) hx
 refine Tr.wp_of_val e ?_
 cases r with
 | inr a =>
  cases a with
  | inl a => exact ⟨a, (hF x).trans hr, rfl⟩
  | inr a => exact ⟨a, (hF x).trans hr, rfl⟩
 | inl s =>
  have e1 : F (pk x s) = F x := by rw [hF, hF, hu, hb]; exact hr.1
  refine ⟨?_, ?_, fun y ⟨a, h1, h2⟩ => ⟨a, e1.symm.trans h1, by rw [h2, hp]⟩, fun y ⟨a, h1, h2⟩ => ⟨a, e1.symm.trans h1, by rw [h2, hp']⟩⟩
  ·show F (pk x s) ≠ none
   rw [e1, hF]; exact hx
  ·show turns (body (pk x s)) (un (pk x s)) < turns (body x) (un x)
   rw [hu, hb]; exact hr.2
end Go.Vx
end
section
set_option maxRecDepth 1000000
namespace Go.Vx
open Go Go.Vx Go.Proofs
theorem Base.mixed : Tryd.prog.follows .mixedOrders = true := by kernel_rfl
theorem Base.prog_ok : progOk Tryd.prog = true := by kernel_rfl
def book0 : Book := Book.none
theorem book0_ok : BookOk Tryd.prog book0 := BookOk.none _
end Go.Vx
end
section
set_option maxRecDepth 1000000
set_option linter.unusedVariables false
namespace Go.Proofs
set_option maxHeartbeats 1000000 in
theorem Tryd.stringslite_IndexByte (s : ByteArray) (c : Int) (w : World) :
  Calls Tryd.prog 49 #[.string s, .int .u8 c] w fun e w' => e = .returned (.int .i64 (Lib.indexByte s.data.toList c.toNat.toUInt8)) ∧ w' = w := by
 go_enter Tryd.func49, Tryd.ntmps49
 go_wp2
 rw [run_callFunc_extern Tryd.func61 (by kernel_rfl) (by kernel_rfl) (by kernel_rfl) (e := Extern.BytealgIndexByte.indexByte) (by kernel_rfl), Lib.run_indexByteString]
 simp only [Result.andThen]
 rw [Oper.upon_value]
 go_wp2
 go_ret
 exact ⟨rfl, rfl⟩
set_option maxHeartbeats 1000000 in
theorem Tryd.strings_Count_one (s : ByteArray) (c : UInt8) (w : World) :
  Calls Tryd.prog 35 #[.string s, .string ⟨#[c]⟩] w fun e w' => e = .returned (.int .i64 (Lib.countByte s.data.toList c)) ∧ w' = w := by
 go_enter Tryd.func35, Tryd.ntmps35
 go_wp2
 rw [run_callFunc_extern Tryd.func45 (by kernel_rfl) (by kernel_rfl) (by kernel_rfl) (e := Extern.BytealgCount.count) (by kernel_rfl), Lib.run_countString]
 simp only [Result.andThen]
 rw [Oper.upon_value]
 go_wp2
 go_ret
 exact ⟨rfl, rfl⟩
end Go.Proofs
namespace Go.Vx
open Go Go.Vx Go.Proofs
def isStr (i : Nat) (l : List UInt8) (args : List AV) : Bool := match args[i]? with
 | some (.str false s) => decide (s = l)
 | _ => false
theorem two_of {N : Nat} {β : At} {x y : AV} {cargs : Array Value} (h : VsRel N β [x, y] cargs.toList) : ∃ c d, cargs = #[c, d] ∧ VRel N β x c ∧ VRel N β y d := by
 obtain ⟨l⟩ := cargs
 simp only at h
 cases h with
 | cons _ c _ cs h1 ht =>
  cases ht with
  | cons _ d _ cs' h2 ht' =>
   cases ht'
   exact ⟨c, d, rfl, h1, h2⟩
namespace slite_IndexByte
def D : Dom := ⟨[], (.cat .str (.int .u8))⟩
def A : Dom := ⟨[], .int .i64⟩
def sel : List Nat := [0, 1]
def f (s : List UInt8) (c : Int) : Option (Int) := some (Lib.indexByte s c.toNat.toUInt8)
def F (x : D.den) : Option (Int) := f x.2.1 x.2.2
def pa : D.den → (Int) → A.den := fun (_, (_, _)) y1 => ((), y1)
def con : Con := tcon D A pa F
theorem ok : ConOk Tryd.prog 49 con := by
 rintro ⟨u, s, c⟩ hp β w cargs hR ha
 obtain ⟨a, b, rfl, h1, h2⟩ := two_of (show VsRel _ β [.str true s, .int true .u8 c] cargs.toList from ha)
 obtain ⟨b1, rfl, hb⟩ := str_of h1
 rw [int_of h2]
 refine (Go.Proofs.Tryd.stringslite_IndexByte b1 c w).mono ?_
 rintro e w' ⟨rfl, rfl⟩
 refine ⟨β, _, rfl, hR, Le.refl _ _ _, ?_⟩
 rw [hb]
 exact .int _ _ _
end slite_IndexByte
def bk_slite_IndexByte : Book := book0.add 49 slite_IndexByte.con
theorem bk_slite_IndexByte_ok : BookOk Tryd.prog bk_slite_IndexByte := book0_ok.add slite_IndexByte.ok
namespace strings_Count
def D : Dom := ⟨[], (.cat .str .str)⟩
def A : Dom := ⟨[], .int .i64⟩
def sel : List Nat := [0, 1]
def f (s : List UInt8) (p : List UInt8) : Option (Int) := match p with
 | [c] => some (Lib.countByte s c)
 | _ => none
def F (x : D.den) : Option (Int) := f x.2.1 x.2.2
def pa : D.den → (Int) → A.den := fun (_, (_, _)) y1 => ((), y1)
def con : Con := tcon D A pa F
theorem ok : ConOk Tryd.prog 35 con := by
 rintro ⟨u, s, p⟩ hp β w cargs hR ha
 obtain ⟨a, b, rfl, h1, h2⟩ := two_of (show VsRel _ β [.str true s, .str true p] cargs.toList from ha)
 obtain ⟨b1, rfl, hb⟩ := str_of h1
 obtain ⟨b2, rfl, hb2⟩ := str_of h2
 match p with
 | [] => exact absurd rfl hp
 | _ :: _ :: _ => exact absurd rfl hp
 | [c] =>
  obtain ⟨⟨l⟩⟩ := b2
  simp only at hb2
  subst hb2
  refine (Go.Proofs.Tryd.strings_Count_one b1 c w).mono ?_
  rintro e w' ⟨rfl, rfl⟩
  refine ⟨β, _, rfl, hR, Le.refl _ _ _, ?_⟩
  rw [hb]
  exact .int _ _ _
end strings_Count
def bk_strings_Count : Book := bk_slite_IndexByte.add 35 strings_Count.con
theorem bk_strings_Count_ok : BookOk Tryd.prog bk_strings_Count := bk_slite_IndexByte_ok.add strings_Count.ok
end Go.Vx
end
section
set_option linter.unusedVariables false
namespace Go.Vx
open Go Go.Vx Go.RowKit
theorem rel_below {β : At} {H : Heap} {w w' : World} (hR : Rel β H w) (hb : Below w.heap.size w w') : Rel β H w' ∧ Le β H w β H w' := by
 constructor
 ·exact {
   lies := fun g b hg => by
    obtain ⟨cs, e, ro, h1, h2⟩ := hR.lies g b hg
    exact ⟨cs, e, ro, h1, h2.later (Nat.le_refl _) (Keeps.refl _ _) fun hn => hb.block _ (hR.blk_lt hg hn)⟩
   tot := hR.tot
   fresh := hR.fresh
   apart := hR.apart
   immw := fun b o c h => (World.cell?_of_block (w := w) (a := ⟨b, o, none⟩) (hb.block _ (hR.imm_lt h))).trans (hR.immw b o c h)
   immm := hR.immm
   glob := hR.glob
   tab := hR.tab.keep (fun _ _ _ h => h) fun g c hc => hb.block _ (hR.imm_lt hc)
   fro := hR.fro }
 ·exact ⟨hb.os, hb.tape, hb.output, hb.size, Nat.le_refl _, Keeps.refl _ _, fun _ _ _ h => .inl ⟨rfl, _, _, h⟩, fun _ _ _ h => .inl h, fun k hk _ => hb.block k hk, fun _ h => .inl h⟩
theorem tcon_call {P : Program} {f : FuncId} {D A : Dom} {α : Type} {pa : D.den → α → A.den} {F : D.den → Option α}
  (h : ∀ x y, F x = some y → CallsTo P f (D.args x) (D.heap x) (A.one (pa x y)) (A.heap (pa x y))) : ConOk P f (tcon D A pa F) := fun x hx => by
 cases e : F x with
 | none => exact absurd e hx
 | some y =>
  have hs : (tcon D A pa F).spec x = .inl (pa x y) := by simp only [tcon, e]
  have := h x y e
  unfold Con.val Con.heap
  rw [hs]
  exact this
end Go.Vx
end
section
namespace Go.Proofs
open Go.Shelf
def Tryd.lays171_ren : Go.Shelf.Ren := ⟨fun | 171 => 30 | 243 => 40 | 246 => 53 | 283 => 63 | 284 => 64 | 285 => 65 | 286 => 66 | 129 => 72 | 317 => 71 | 318 => 73 | 319 => 74 | 320 => 75 | 337 => 77 | 338 => 78 | n => n, fun | 3 => 3 | 9 => 9 | 2 => 2 | 4 => 4 | 171 => 84 | 0 => 0 | 53 => 44 | 37 => 22 | 5 => 5 | 173 => 87 | 212 => 94 | 51 => 23 | 20 => 20 | 213 => 95 | 46 => 34 | 232 => 99 | 233 => 100 | n => n, fun | 17 => 3 | 18 => 4 | 19 => 5 | n => n⟩
theorem Tryd.lays171 : Go.Proofs.LaysM.n171 Tryd.prog Tryd.lays171_ren := {
 mixed := by kernel_rfl
 f129 := Tryd.func72.trans (congrArg some (by kernel_rfl))
 f171 := Tryd.func30.trans (congrArg some (by kernel_rfl))
 f243 := Tryd.func40.trans (congrArg some (by kernel_rfl))
 f246 := Tryd.func53.trans (congrArg some (by kernel_rfl))
 f283 := Tryd.func63.trans (congrArg some (by kernel_rfl))
 f284 := Tryd.func64.trans (congrArg some (by kernel_rfl))
 f285 := Tryd.func65.trans (congrArg some (by kernel_rfl))
 f286 := Tryd.func66.trans (congrArg some (by kernel_rfl))
 f317 := Tryd.func71.trans (congrArg some (by kernel_rfl))
 f318 := Tryd.func73.trans (congrArg some (by kernel_rfl))
 f319 := Tryd.func74.trans (congrArg some (by kernel_rfl))
 f320 := Tryd.func75.trans (congrArg some (by kernel_rfl))
 f337 := Tryd.func77.trans (congrArg some (by kernel_rfl))
 f338 := Tryd.func78.trans (congrArg some (by kernel_rfl))
 t0 := Tryd.underlying0
 a0 := Tryd.isAgg0
 z0 := Tryd.sizeOf0
 v0 := Tryd.zeroValue0
 t2 := Tryd.underlying2
 a2 := Tryd.isAgg2
 z2 := Tryd.sizeOf2
 v2 := Tryd.zeroValue2
 t3 := Tryd.underlying3
 a3 := Tryd.isAgg3
 z3 := Tryd.sizeOf3
 v3 := Tryd.zeroValue3
 t4 := Tryd.underlying4
 a4 := Tryd.isAgg4
 z4 := Tryd.sizeOf4
 v4 := Tryd.zeroValue4
 t5 := Tryd.underlying5
 a5 := Tryd.isAgg5
 z5 := Tryd.sizeOf5
 v5 := Tryd.zeroValue5
 t9 := Tryd.underlying9
 a9 := Tryd.isAgg9
 z9 := Tryd.sizeOf9
 v9 := Tryd.zeroValue9
 t20 := Tryd.underlying20
 a20 := Tryd.isAgg20
 z20 := Tryd.sizeOf20
 v20 := Tryd.zeroValue20
 t37 := Tryd.underlying22
 a37 := Tryd.isAgg22
 z37 := Tryd.sizeOf22
 v37 := Tryd.zeroValue22
 t46 := Tryd.underlying34
 a46 := Tryd.isAgg34
 z46 := Tryd.sizeOf34
 v46 := Tryd.zeroValue34
 t51 := Tryd.underlying23
 a51 := Tryd.isAgg23
 z51 := Tryd.sizeOf23
 v51 := Tryd.zeroValue23
 t53 := Tryd.underlying44
 a53 := Tryd.isAgg44
 z53 := Tryd.sizeOf44
 v53 := Tryd.zeroValue44
 t171 := Tryd.underlying84
 a171 := Tryd.isAgg84
 z171 := Tryd.sizeOf84
 v171 := Tryd.zeroValue84
 t173 := Tryd.underlying87
 a173 := Tryd.isAgg87
 z173 := Tryd.sizeOf87
 v173 := Tryd.zeroValue87
 t212 := Tryd.underlying94
 a212 := Tryd.isAgg94
 z212 := Tryd.sizeOf94
 v212 := Tryd.zeroValue94
 t213 := Tryd.underlying95
 a213 := Tryd.isAgg95
 z213 := Tryd.sizeOf95
 t232 := Tryd.underlying99
 a232 := Tryd.isAgg99
 z232 := Tryd.sizeOf99
 v232 := Tryd.zeroValue99
 t233 := Tryd.underlying100
 a233 := Tryd.isAgg100
 z233 := Tryd.sizeOf100
 v233 := Tryd.zeroValue100
 g17 := by kernel_rfl
 g18 := by kernel_rfl
 g19 := by kernel_rfl
 i0 := by kernel_rfl
 i2 := by kernel_rfl
 i3 := by kernel_rfl
 i4 := by kernel_rfl
 i5 := by kernel_rfl
 i9 := by kernel_rfl
 i20 := by kernel_rfl
 i37 := by kernel_rfl
 i46 := by kernel_rfl
 i51 := by kernel_rfl
 i53 := by kernel_rfl
 i171 := by kernel_rfl
 i173 := by kernel_rfl
 i212 := by kernel_rfl
 i232 := by kernel_rfl
 i233 := by kernel_rfl
 m17 := by kernel_rfl
 m18 := by kernel_rfl
 m19 := by kernel_rfl }
def Tryd.lays156_ren : Go.Shelf.Ren := ⟨fun | 156 => 24 | 165 => 31 | 166 => 32 | 169 => 33 | 240 => 41 | 241 => 42 | 276 => 54 | 277 => 55 | n => n, fun | 31 => 27 | 9 => 9 | 3 => 3 | 4 => 4 | 0 => 0 | 20 => 20 | 72 => 56 | 76 => 60 | 70 => 54 | 37 => 22 | 75 => 59 | 127 => 67 | 164 => 76 | 5 => 5 | 80 => 62 | n => n, fun | n => n⟩
theorem Tryd.lays156 : Go.Proofs.Lays.n156 Tryd.prog Tryd.lays156_ren := {
 mixed := by kernel_rfl
 f156 := Tryd.func24.trans (congrArg some (by kernel_rfl))
 f165 := Tryd.func31.trans (congrArg some (by kernel_rfl))
 f166 := Tryd.func32.trans (congrArg some (by kernel_rfl))
 f169 := Tryd.func33.trans (congrArg some (by kernel_rfl))
 f240 := Tryd.func41.trans (congrArg some (by kernel_rfl))
 f241 := Tryd.func42.trans (congrArg some (by kernel_rfl))
 f276 := Tryd.func54.trans (congrArg some (by kernel_rfl))
 f277 := Tryd.func55.trans (congrArg some (by kernel_rfl))
 t0 := Tryd.underlying0
 a0 := Tryd.isAgg0
 z0 := Tryd.sizeOf0
 v0 := Tryd.zeroValue0
 t3 := Tryd.underlying3
 a3 := Tryd.isAgg3
 z3 := Tryd.sizeOf3
 v3 := Tryd.zeroValue3
 t4 := Tryd.underlying4
 a4 := Tryd.isAgg4
 z4 := Tryd.sizeOf4
 v4 := Tryd.zeroValue4
 t9 := Tryd.underlying9
 a9 := Tryd.isAgg9
 z9 := Tryd.sizeOf9
 v9 := Tryd.zeroValue9
 t20 := Tryd.underlying20
 a20 := Tryd.isAgg20
 z20 := Tryd.sizeOf20
 v20 := Tryd.zeroValue20
 t31 := Tryd.underlying27
 a31 := Tryd.isAgg27
 z31 := Tryd.sizeOf27
 v31 := Tryd.zeroValue27
 t37 := Tryd.underlying22
 a37 := Tryd.isAgg22
 z37 := Tryd.sizeOf22
 v37 := Tryd.zeroValue22
 t70 := Tryd.underlying54
 a70 := Tryd.isAgg54
 z70 := Tryd.sizeOf54
 v70 := Tryd.zeroValue54
 t72 := Tryd.underlying56
 a72 := Tryd.isAgg56
 z72 := Tryd.sizeOf56
 v72 := Tryd.zeroValue56
 t75 := Tryd.underlying59
 a75 := Tryd.isAgg59
 z75 := Tryd.sizeOf59
 v75 := Tryd.zeroValue59
 t76 := Tryd.underlying60
 a76 := Tryd.isAgg60
 z76 := Tryd.sizeOf60
 v76 := Tryd.zeroValue60
 t127 := Tryd.underlying67
 a127 := Tryd.isAgg67
 z127 := Tryd.sizeOf67
 v127 := Tryd.zeroValue67
 t164 := Tryd.underlying76
 a164 := Tryd.isAgg76
 z164 := Tryd.sizeOf76
 v164 := Tryd.zeroValue76 }
end Go.Proofs
end
section
set_option maxRecDepth 1000000
set_option linter.unusedVariables false
namespace Go.Proofs
open Go.Shelf
theorem Tryd.extra156 : Builder.Extra Tryd.prog Tryd.lays156_ren where
 sizeBuilder := by kernel_rfl
 liesBuilder := by kernel_rfl
 t5 := by kernel_rfl
 a5 := fun _ => by kernel_rfl
 z5 := fun _ => by kernel_rfl
 v5 := fun _ => by kernel_rfl
 infoByte := by kernel_rfl
 cellsByte := by kernel_rfl
 sizeByte := by kernel_rfl
 neB5 := by decide
end Go.Proofs
namespace Go.Vx
open Go Go.Vx Go.Proofs
theorem one_of {N : Nat} {β : At} {x : AV} {cargs : Array Value} (h : VsRel N β [x] cargs.toList) : ∃ c, cargs = #[c] ∧ VRel N β x c := by
 obtain ⟨l⟩ := cargs
 simp only at h
 cases h with
 | cons _ c _ cs h1 ht =>
  cases ht
  exact ⟨c, rfl, h1⟩
namespace strconv_Itoa
def D : Dom := ⟨[], .int .i64⟩
def A : Dom := ⟨[], .str⟩
def sel : List Nat := [0]
def f (n : Int) : Option (List UInt8) := if (decide (-9223372036854775808 ≤ n) && decide (n ≤ 9223372036854775807)) = true then some (Lib.itoa n) else none
def F (x : D.den) : Option (List UInt8) := f x.2
def pa : D.den → (List UInt8) → A.den := fun (_, _) y1 => ((), y1)
def con : Con := tcon D A pa F
theorem tab {β : At} {H : Heap} {w : World} (hR : Rel β H w) : Lib.TabIs Tryd.prog w "internal/strconv.uint64pow10" .u64 Lib.pow10Tab := by
 obtain ⟨_, t, m, hw⟩ := hR.tab 3 .u64 Lib.pow10Tab (by unfold globTabs; exact List.mem_of_getElem? (i := 0) rfl)
 unfold Lib.TabIs World.var?
 rw [show Tryd.prog.globalNamed "internal/strconv.uint64pow10" = some 3 from by kernel_rfl]
 simp only [Option.bind_some, hw]
theorem ok : ConOk Tryd.prog 30 con := tcon_call fun x y hy => by
 obtain ⟨u, n⟩ := x
 intro β w cargs hR ha
 obtain ⟨a, rfl, h1⟩ := one_of (show VsRel _ β [.int true .i64 n] cargs.toList from ha)
 rw [int_of h1]
 have hF : f n = some y := hy
 unfold f at hF
 split at hF
 ·rename_i hc
  cases hF
  simp only [Bool.and_eq_true, decide_eq_true_eq] at hc
  refine (Any.strconv_Itoa Tryd.lays171 n hc.1 hc.2 w (tab hR)).mono ?_
  rintro e w' ⟨rfl, k, os, rfl⟩
  obtain ⟨g1, g2⟩ := rel_below hR (Lib.below_grow _ w (Nat.le_refl _) k os)
  exact ⟨β, _, rfl, g1, g2, .str _ _ _ (by simp)⟩
 ·cases hF
end strconv_Itoa
def bk_strconv_Itoa : Book := bk_strings_Count.add 30 strconv_Itoa.con
theorem bk_strconv_Itoa_ok : BookOk Tryd.prog bk_strconv_Itoa := bk_strings_Count_ok.add strconv_Itoa.ok
namespace strings_Join
def D : Dom := ⟨[.vec .str 9 true], (.cat (.sl 0 1) .str)⟩
def A : Dom := ⟨[.vec .str 9 true], .str⟩
def sel : List Nat := [0, 1]
def good (l : List (List UInt8)) (p : List UInt8) : Bool := decide (l.length ≤ 140737488355328) && decide ((Lib.join l p).length ≤ 140737488355328)
def f (l : List (List UInt8)) (p : List UInt8) : Option (List UInt8) := if good l p = true then some (Lib.join l p) else none
def F (x : D.den) : Option (List UInt8) := f x.1.1 x.2.2
def pa : D.den → (List UInt8) → A.den := fun ((l, _), (_, _)) y1 => ((l, ()), y1)
def con : Con := tcon D A pa F
theorem encStr : ∀ (l : List (List UInt8)), encL .str l = l.map fun s => AV.str true s
 | [] => rfl
 | a :: l => by
  show [AV.str true a] ++ encL .str l = _
  rw [encStr l]
  rfl
theorem cellsOf {β : At} {w : World} {l : List (List UInt8)} {b o N : Nat} (h : ∀ (j : Nat) v, (encL .str l)[j]? = some v → ∃ c, w.cell? ⟨b, o + j, none⟩ = some c ∧ VRel N β v c) :
  ∀ (j : Nat) x, (l.map fun s => (⟨s.toArray⟩ : ByteArray))[j]? = some x → w.cell? ⟨b, o + j, none⟩ = some (.string x) := fun j x hx => by
 rw [List.getElem?_map] at hx
 cases hl : l[j]? with
 | none => rw [hl] at hx; cases hx
 | some s =>
  rw [hl] at hx
  simp only [Option.map_some, Option.some.injEq] at hx
  have hv : (encL .str l)[j]? = some (.str true s) := by
   rw [encStr, List.getElem?_map, hl]; rfl
  obtain ⟨c, hc, hr⟩ := h j _ hv
  obtain ⟨d, rfl, hd⟩ := str_of hr
  rw [hc, ← hx]
  congr 2
  obtain ⟨⟨d⟩⟩ := d
  simp only at hd
  rw [← hd]
theorem ok : ConOk Tryd.prog 24 con := tcon_call fun x y hy => by
 obtain ⟨⟨l, u⟩, v, p⟩ := x
 intro β w cargs hR ha
 obtain ⟨a, b, rfl, h1, h2⟩ := two_of (show VsRel _ β [.slice true (some ⟨0, 0, 1, 0⟩) l.length 1, .str true p] cargs.toList from ha)
 obtain ⟨b2, rfl, hb2⟩ := str_of h2
 have hF : f l p = some y := hy
 unfold f at hF
 split at hF
 ·rename_i hc
  cases hF
  simp only [good, Bool.and_eq_true, decide_eq_true_eq] at hc
  have hrow : (D.heap ((l, u), v, p)).row 0 = some (encL .str l, 9, true) := rfl
  obtain ⟨bs, hbs⟩ := hR.tot 0 _ _ _ hrow
  obtain ⟨cs, e, ro, hr, hl⟩ := hR.lies 0 bs hbs
  rw [hrow] at hr
  cases hr
  cases h1 with
  | slice _ r n z cap ad hg hn hs h =>
   have key : Calls Tryd.prog 24 #[.slice ad l.length cap, .string b2] w fun e w' => e = .returned (.string ⟨(Lib.join l p).toArray⟩) ∧ Go.RowKit.Below w.heap.size w w' := by
    cases hll : l with
    | nil =>
     refine (Any.strings_Join_none Tryd.lays156 Tryd.extra156 ad cap b2 w).mono ?_
     rintro e w' ⟨rfl, rfl⟩
     exact ⟨rfl, Go.RowKit.Below.refl _ _⟩
    | cons q r =>
     have hnil : bs.nil = false := by
      cases hnn : bs.nil with
      | false => rfl
      | true =>
       have := hl.nl hnn
       rw [hll] at this
       simp [encL, enc] at this
     have hpos : 0 < cap := by rw [hll] at hn; simp at hn; omega
     have hat := ((h bs hbs).2 hnil).1 hpos
     rw [hat]
     have hx : (l.map fun s => (⟨s.toArray⟩ : ByteArray)).length = l.length := by simp
     have hm : (l.map fun s => (⟨s.toArray⟩ : ByteArray)).map (·.data.toList) = l := by rw [List.map_map]; simp [Function.comp_def]
     have := Any.strings_Join Tryd.lays156 Tryd.extra156 bs.blk (bs.off + 0) cap (l.map fun s => (⟨s.toArray⟩ : ByteArray)) b2 w (cellsOf (fun j v hv => by simpa using hl.cell j v hv)) (hl.blk hnil) (by rw [hx]; exact hc.1) (by rw [hx]; exact hn) (by rw [hm, hb2]; exact hc.2)
     rw [hm, hx, hb2] at this
     rw [← hll]
     exact this
   refine key.mono ?_
   rintro e w' ⟨rfl, hbl⟩
   obtain ⟨g1, g2⟩ := rel_below hR hbl
   exact ⟨β, _, rfl, g1, g2, .str _ _ _ (by simp)⟩
 ·cases hF
end strings_Join
def bk_strings_Join : Book := bk_strconv_Itoa.add 24 strings_Join.con
theorem bk_strings_Join_ok : BookOk Tryd.prog bk_strings_Join := bk_strconv_Itoa_ok.add strings_Join.ok
end Go.Vx
end
section
set_option maxRecDepth 1000000
set_option maxHeartbeats 4000000
set_option synthInstance.maxSize 100000
set_option synthInstance.maxHeartbeats 400000
set_option linter.unusedVariables false
namespace Go.Vx
open Go Go.Vx Go.Proofs
namespace octet_letter
def D : Dom := ⟨[], (.int .u8)⟩
def A : Dom := ⟨[], .bool⟩
def sel : List Nat := [0]
def t (c : Int) : Tr (Bool) :=
 .br (decide (IntKind.u8.wrap (↑(BitVec.ofInt IntKind.u8.bits c ||| BitVec.ofInt IntKind.u8.bits (32 : Int)).toNat : Int) ≥ (97 : Int))) (.ret (decide (IntKind.u8.wrap (↑(BitVec.ofInt IntKind.u8.bits c ||| BitVec.ofInt IntKind.u8.bits (32 : Int)).toNat : Int) ≤ (122 : Int))))
 (.ret false)
def f (c : Int) : Option (Bool) := (t c).val
def F (x : D.den) : Option (Bool) := f x.2
def pa : D.den → (Bool) → A.den := fun (_, _) y1 => ((), y1)
def con : Con := tcon D A pa F
theorem ok : ConOk Tryd.prog 59 con := tcon_ok Base.mixed Base.prog_ok bk_strings_Join_ok (by kernel_rfl) LapsOk.nil 9 (fun _ => rfl) (fun x => t x.2) (fun _ => rfl) fun _ _ _ => (by kernel_rfl)
end octet_letter
def bk_octet_letter : Book := bk_strings_Join.add 59 octet_letter.con
theorem bk_octet_letter_ok : BookOk Tryd.prog bk_octet_letter := bk_strings_Join_ok.add octet_letter.ok
namespace octet_Digit
def D : Dom := ⟨[], (.int .u8)⟩
def A : Dom := ⟨[], .bool⟩
def sel : List Nat := [0]
def t (c : Int) : Tr (Bool) :=
 .br (decide (c ≥ (48 : Int))) (.ret (decide (c ≤ (57 : Int))))
 (.ret false)
def f (c : Int) : Option (Bool) := (t c).val
def F (x : D.den) : Option (Bool) := f x.2
def pa : D.den → (Bool) → A.den := fun (_, _) y1 => ((), y1)
def con : Con := tcon D A pa F
theorem ok : ConOk Tryd.prog 58 con := tcon_ok Base.mixed Base.prog_ok bk_octet_letter_ok (by kernel_rfl) LapsOk.nil 9 (fun _ => rfl) (fun x => t x.2) (fun _ => rfl) fun _ _ _ => (by kernel_rfl)
end octet_Digit
def bk_octet_Digit : Book := bk_octet_letter.add 58 octet_Digit.con
theorem bk_octet_Digit_ok : BookOk Tryd.prog bk_octet_Digit := bk_octet_letter_ok.add octet_Digit.ok
namespace strings_IndexByte_sx21x23x24x25x26x27x2z15
def D : Dom := ⟨[], (.cat (.lit (.str false [33, 35, 36, 37, 38, 39, 42, 43, 45, 46, 94, 95, 96, 124, 126])) (.int .u8))⟩
def A : Dom := ⟨[], (.int .i64)⟩
def sel : List Nat := [0]
def t (c : Int) : Tr (Int) :=
 .call (slite_IndexByte.f [(33 : UInt8), (35 : UInt8), (36 : UInt8), (37 : UInt8), (38 : UInt8), (39 : UInt8), (42 : UInt8), (43 : UInt8), (45 : UInt8), (46 : UInt8), (94 : UInt8), (95 : UInt8), (96 : UInt8), (124 : UInt8), (126 : UInt8)] c) fun y1 =>
 .ret y1
def f (c : Int) : Option (Int) := (t c).val
def F (x : D.den) : Option (Int) := f x.2.2
def pa : D.den → (Int) → A.den := fun (_, (_, _)) y1 => ((), y1)
def con : Con := tcon D A pa F
theorem ok : ConOk Tryd.prog 76 con := tcon_ok Base.mixed Base.prog_ok bk_octet_Digit_ok (by kernel_rfl) LapsOk.nil 9 (fun _ => rfl) (fun x => t x.2.2) (fun _ => rfl) fun _ _ _ => (by kernel_rfl)
end strings_IndexByte_sx21x23x24x25x26x27x2z15
def bk_strings_IndexByte_sx21x23x24x25x26x27x2z15 : Book := bk_octet_Digit.addS 76 (fun a => isStr 0 [33, 35, 36, 37, 38, 39, 42, 43, 45, 46, 94, 95, 96, 124, 126] a) strings_IndexByte_sx21x23x24x25x26x27x2z15.con
theorem bk_strings_IndexByte_sx21x23x24x25x26x27x2z15_ok : BookOk Tryd.prog bk_strings_IndexByte_sx21x23x24x25x26x27x2z15 := bk_octet_Digit_ok.addS strings_IndexByte_sx21x23x24x25x26x27x2z15.ok
namespace octet_Token
def D : Dom := ⟨[], (.int .u8)⟩
def A : Dom := ⟨[], .bool⟩
def sel : List Nat := [0]
def t (c : Int) : Tr (Bool) :=
 .call (octet_letter.f c) fun y1 =>
 .br y1 (.ret true)
 (.call (octet_Digit.f c) fun y2 =>
  .br y2 (.ret true)
  (.call (strings_IndexByte_sx21x23x24x25x26x27x2z15.f c) fun y3 =>
  .ret (decide (y3 ≥ (0 : Int)))))
def f (c : Int) : Option (Bool) := (t c).val
def F (x : D.den) : Option (Bool) := f x.2
def pa : D.den → (Bool) → A.den := fun (_, _) y1 => ((), y1)
def con : Con := tcon D A pa F
theorem ok : ConOk Tryd.prog 67 con := tcon_ok Base.mixed Base.prog_ok bk_strings_IndexByte_sx21x23x24x25x26x27x2z15_ok (by kernel_rfl) LapsOk.nil 9 (fun _ => rfl) (fun x => t x.2) (fun _ => rfl) fun _ _ _ => (by kernel_rfl)
end octet_Token
def bk_octet_Token : Book := bk_strings_IndexByte_sx21x23x24x25x26x27x2z15.add 67 octet_Token.con
theorem bk_octet_Token_ok : BookOk Tryd.prog bk_octet_Token := bk_strings_IndexByte_sx21x23x24x25x26x27x2z15_ok.add octet_Token.ok
namespace octet_Visible
def D : Dom := ⟨[], (.int .u8)⟩
def A : Dom := ⟨[], .bool⟩
def sel : List Nat := [0]
def t (c : Int) : Tr (Bool) :=
 .br (decide (c > (32 : Int))) (.ret (decide (c < (127 : Int))))
 (.ret false)
def f (c : Int) : Option (Bool) := (t c).val
def F (x : D.den) : Option (Bool) := f x.2
def pa : D.den → (Bool) → A.den := fun (_, _) y1 => ((), y1)
def con : Con := tcon D A pa F
theorem ok : ConOk Tryd.prog 68 con := tcon_ok Base.mixed Base.prog_ok bk_octet_Token_ok (by kernel_rfl) LapsOk.nil 9 (fun _ => rfl) (fun x => t x.2) (fun _ => rfl) fun _ _ _ => (by kernel_rfl)
end octet_Visible
def bk_octet_Visible : Book := bk_octet_Token.add 68 octet_Visible.con
theorem bk_octet_Visible_ok : BookOk Tryd.prog bk_octet_Visible := bk_octet_Token_ok.add octet_Visible.ok
namespace octet_Blank
def D : Dom := ⟨[], (.int .u8)⟩
def A : Dom := ⟨[], .bool⟩
def sel : List Nat := [0]
def t (c : Int) : Tr (Bool) :=
 .br (c == (32 : Int)) (.ret true)
 (.ret (c == (9 : Int)))
def f (c : Int) : Option (Bool) := (t c).val
def F (x : D.den) : Option (Bool) := f x.2
def pa : D.den → (Bool) → A.den := fun (_, _) y1 => ((), y1)
def con : Con := tcon D A pa F
theorem ok : ConOk Tryd.prog 69 con := tcon_ok Base.mixed Base.prog_ok bk_octet_Visible_ok (by kernel_rfl) LapsOk.nil 9 (fun _ => rfl) (fun x => t x.2) (fun _ => rfl) fun _ _ _ => (by kernel_rfl)
end octet_Blank
def bk_octet_Blank : Book := bk_octet_Visible.add 69 octet_Blank.con
theorem bk_octet_Blank_ok : BookOk Tryd.prog bk_octet_Blank := bk_octet_Visible_ok.add octet_Blank.ok
namespace octet_Hex
def D : Dom := ⟨[], (.int .u8)⟩
def A : Dom := ⟨[], (.tup (.cat (.int .i64) .bool))⟩
def sel : List Nat := [0]
def t (c : Int) : Tr (Int × Bool) :=
 .call (octet_Digit.f c) fun y1 =>
 .br y1 (.ret (IntKind.i64.wrap (IntKind.u8.wrap (c - (48 : Int))), true))
 (.call (octet_letter.f c) fun y2 =>
  .br y2 (.br (decide (IntKind.u8.wrap (↑(BitVec.ofInt IntKind.u8.bits c ||| BitVec.ofInt IntKind.u8.bits (32 : Int)).toNat : Int) ≤ (102 : Int))) (.ret (IntKind.i64.wrap (IntKind.i64.wrap (IntKind.u8.wrap (IntKind.u8.wrap (↑(BitVec.ofInt IntKind.u8.bits c ||| BitVec.ofInt IntKind.u8.bits (32 : Int)).toNat : Int) - (97 : Int))) + (10 : Int)), true))
  (.ret ((0 : Int), false)))
  (.ret ((0 : Int), false)))
def f (c : Int) : Option (Int × Bool) := (t c).val
def F (x : D.den) : Option (Int × Bool) := f x.2
def pa : D.den → (Int × Bool) → A.den := fun (_, _) (y1, y2) => ((), (y1, y2))
def con : Con := tcon D A pa F
theorem ok : ConOk Tryd.prog 47 con := tcon_ok Base.mixed Base.prog_ok bk_octet_Blank_ok (by kernel_rfl) LapsOk.nil 9 (fun _ => rfl) (fun x => t x.2) (fun _ => rfl) fun _ _ _ => (by kernel_rfl)
end octet_Hex
def bk_octet_Hex : Book := bk_octet_Blank.add 47 octet_Hex.con
theorem bk_octet_Hex_ok : BookOk Tryd.prog bk_octet_Hex := bk_octet_Blank_ok.add octet_Hex.ok
namespace octet_Text
def D : Dom := ⟨[], (.int .u8)⟩
def A : Dom := ⟨[], .bool⟩
def sel : List Nat := [0]
def t (c : Int) : Tr (Bool) :=
 .call (octet_Visible.f c) fun y1 =>
 .br y1 (.ret true)
 (.call (octet_Blank.f c) fun y2 =>
  .br y2 (.ret true)
  (.ret (decide (c ≥ (128 : Int)))))
def f (c : Int) : Option (Bool) := (t c).val
def F (x : D.den) : Option (Bool) := f x.2
def pa : D.den → (Bool) → A.den := fun (_, _) y1 => ((), y1)
def con : Con := tcon D A pa F
theorem ok : ConOk Tryd.prog 70 con := tcon_ok Base.mixed Base.prog_ok bk_octet_Hex_ok (by kernel_rfl) LapsOk.nil 9 (fun _ => rfl) (fun x => t x.2) (fun _ => rfl) fun _ _ _ => (by kernel_rfl)
end octet_Text
def bk_octet_Text : Book := bk_octet_Hex.add 70 octet_Text.con
theorem bk_octet_Text_ok : BookOk Tryd.prog bk_octet_Text := bk_octet_Hex_ok.add octet_Text.ok
namespace octet_of
def D : Dom := ⟨[], (.cat (.int .u8) (.int .i64))⟩
def A : Dom := ⟨[], .bool⟩
def sel : List Nat := [0, 1]
def t (c : Int) (kind : Int) : Tr (Bool) :=
 .br (kind == (1 : Int)) (.call (octet_Token.f c) fun y1 =>
  .ret y1)
 (.br (kind == (2 : Int)) (.call (octet_Visible.f c) fun y2 =>
  .ret y2)
  (.br (kind == (3 : Int)) (.call (octet_Blank.f c) fun y3 =>
   .ret y3)
  (.br (kind == (4 : Int)) (.call (octet_Digit.f c) fun y4 =>
   .ret y4)
   (.br (kind == (5 : Int)) (.call (octet_Hex.f c) fun (_, y5b) =>
    .ret y5b)
   (.br (kind == (6 : Int)) (.call (octet_Text.f c) fun y6 =>
    .ret y6)
    (.ret false))))))
def f (c : Int) (kind : Int) : Option (Bool) := (t c kind).val
def F (x : D.den) : Option (Bool) := f x.2.1 x.2.2
def pa : D.den → (Bool) → A.den := fun (_, (_, _)) y1 => ((), y1)
def con : Con := tcon D A pa F
theorem ok : ConOk Tryd.prog 57 con := tcon_ok Base.mixed Base.prog_ok bk_octet_Text_ok (by kernel_rfl) LapsOk.nil 9 (fun _ => rfl) (fun x => t x.2.1 x.2.2) (fun _ => rfl) fun _ _ _ => (by kernel_rfl)
end octet_of
def bk_octet_of : Book := bk_octet_Text.add 57 octet_of.con
theorem bk_octet_of_ok : BookOk Tryd.prog bk_octet_of := bk_octet_Text_ok.add octet_of.ok
namespace octet_All
def D : Dom := ⟨[.vec (.int .i64) 3 true], (.cat .str (.sl 0 1))⟩
namespace L6
def D : Dom := ⟨[.vec (.int .i64) 3 true], (.cat .str (.cat (.sl 0 1) (.cat (.int .i64) (.cat .bool (.cat (.int .i64) (.cat (.int .i64) (.cat (.sl 0 1) (.cat (.int .i64) (.int .i64)))))))))⟩
def A : Dom := ⟨[.vec (.int .i64) 3 true], (.cat .str (.cat (.sl 0 1) (.cat .bool (.cat (.int .i64) (.int .i64)))))⟩
def sel : List Nat := [0, 1, 2, 3, 6, 7]
def t (kinds : List Int) (s : List UInt8) (i : Int) (vis : Bool) (t15 : Int) (t16 : Int) : Tr ((Bool × Int) ⊕ (Bool)) :=
 .br (decide (t16 < t15)) (.chk ((0 : Int) ≤ t16 ∧ t16 < (↑kinds.length : Int)) <| .chk ((0 : Nat) + t16.toNat < kinds.length) <| .br vis (.okl kinds.length <| .okl kinds.length <| .ret (.inl (true, IntKind.i64.wrap (t16 + (1 : Int)))))
  (.chk ((0 : Int) ≤ i ∧ i < (↑s.length : Int)) <| .call (octet_of.f (↑(s.getD i.toNat (0 : UInt8)).toNat : Int) (kinds.getD ((0 : Nat) + t16.toNat) (0 : Int))) fun y1 =>
  .okl kinds.length <| .okl kinds.length <| .ret (.inl (y1, IntKind.i64.wrap (t16 + (1 : Int))))))
 (.okl kinds.length <| .ret (.inr vis))
def f (kinds : List Int) (s : List UInt8) (i : Int) (vis : Bool) (t15 : Int) (t16 : Int) : Option (Bool) := Loop (fun z : Bool × Int => t kinds s i z.1 t15 z.2) (vis, t16)
def F (x : D.den) : Option (Bool) := f x.1.1 x.2.1 x.2.2.2.1 x.2.2.2.2.1 x.2.2.2.2.2.2.2.2.1 x.2.2.2.2.2.2.2.2.2
def pa : D.den → (Bool) → A.den := fun ((kinds, _), (s, (_, (_, (_, (t10, (t11, (_, (_, _))))))))) y1 => ((kinds, ()), (s, ((), (y1, (t10, t11)))))
def lap : Lap := tlap 6 32 [0, 1, 5, 6, 10, 11, 14, 15, 16] D (.exit 2) [0, 1, 6, 10, 11] A pa F
def pk (x : D.den) (z : Bool × Int) : D.den := ((x.1.1, ()), (x.2.1, ((), (x.2.2.2.1, (z.1, (x.2.2.2.2.2.1, (x.2.2.2.2.2.2.1, ((), (x.2.2.2.2.2.2.2.2.1, z.2)))))))))
def un (x : D.den) : Bool × Int := (x.2.2.2.2.1, x.2.2.2.2.2.2.2.2.2)
def body (x : D.den) (z : Bool × Int) : Tr ((Bool × Int) ⊕ (Bool)) := t x.1.1 x.2.1 x.2.2.2.1 z.1 x.2.2.2.2.2.2.2.2.1 z.2
theorem ok : LapOk Tryd.prog 1 (codeOf Tryd.prog 46) lap := tlap_ok Base.mixed Base.prog_ok bk_octet_of_ok (by kernel_rfl) (by kernel_rfl) LapsOk.nil 9 pk un body (fun _ _ => rfl) (fun _ _ => rfl) (fun _ _ => rfl) (fun _ => rfl) fun _ _ _ _ => (by kernel_rfl)
end L6
namespace L2
def D : Dom := ⟨[.vec (.int .i64) 3 true], (.cat .str (.cat (.sl 0 1) (.cat (.int .i64) (.int .i64))))⟩
def A : Dom := ⟨[.vec (.int .i64) 3 true], .nil⟩
def B : Dom := ⟨[.vec (.int .i64) 3 true], .bool⟩
def sel : List Nat := [0, 1, 2, 3]
def t (kinds : List Int) (s : List UInt8) (t10 : Int) (t11 : Int) : Tr ((Int) ⊕ ((Unit) ⊕ (Bool))) :=
 .br (decide (t11 < t10)) (.okl kinds.length <| .okl kinds.length <| .call (octet_All.L6.f kinds s t11 false (↑kinds.length : Int) (0 : Int)) fun y1 =>
  .br (!y1) (.ret (.inr (.inr false)))
  (.okl kinds.length <| .ret (.inl (IntKind.i64.wrap (t11 + (1 : Int))))))
 (.ret (.inr (.inl ())))
def f (kinds : List Int) (s : List UInt8) (t10 : Int) (t11 : Int) : Option ((Unit) ⊕ (Bool)) := Loop (fun z : Int => t kinds s t10 z) t11
def F (x : D.den) : Option ((Unit) ⊕ (Bool)) := f x.1.1 x.2.1 x.2.2.2.1 x.2.2.2.2
def pa : D.den → (Unit) → A.den := fun ((kinds, _), (_, (_, (_, _)))) _ => ((kinds, ()), ())
def pb : D.den → (Bool) → B.den := fun ((kinds, _), (_, (_, (_, _)))) y1 => ((kinds, ()), y1)
def lap : Lap := tlap2 2 32 [0, 1, 10, 11] D (.exit 0) [] A .ret [4] B pa pb F
def pk (x : D.den) (z : Int) : D.den := ((x.1.1, ()), (x.2.1, ((), (x.2.2.2.1, z))))
def un (x : D.den) : Int := x.2.2.2.2
def body (x : D.den) (z : Int) : Tr ((Int) ⊕ ((Unit) ⊕ (Bool))) := t x.1.1 x.2.1 x.2.2.2.1 z
theorem ok : LapOk Tryd.prog 1 (codeOf Tryd.prog 46) lap := tlap2_ok Base.mixed Base.prog_ok bk_octet_of_ok (by kernel_rfl) (by kernel_rfl) (.cons L6.ok (by kernel_rfl) (.nil)) 9 pk un body (fun _ _ => rfl) (fun _ _ => rfl) (fun _ _ => rfl) (fun _ _ => rfl) (fun _ => rfl) fun _ _ _ _ => (by kernel_rfl)
end L2
def A : Dom := ⟨[.vec (.int .i64) 3 true], .bool⟩
def sel : List Nat := [0, 1]
def t (kinds : List Int) (s : List UInt8) : Tr (Bool) :=
 .okl kinds.length <| .both (octet_All.L2.f kinds s (↑s.length : Int) (0 : Int)) (fun _ => .ret true)
 (fun y2 => .ret y2)
def f (kinds : List Int) (s : List UInt8) : Option (Bool) := (t kinds s).val
def F (x : D.den) : Option (Bool) := f x.1.1 x.2.1
def pa : D.den → (Bool) → A.den := fun ((kinds, _), (_, _)) y1 => ((kinds, ()), y1)
def con : Con := tcon D A pa F
theorem ok : ConOk Tryd.prog 46 con := tcon_ok Base.mixed Base.prog_ok bk_octet_of_ok (by kernel_rfl) (.cons L6.ok (by kernel_rfl) (.cons L2.ok (by kernel_rfl) (.nil))) 9 (fun _ => rfl) (fun x => t x.1.1 x.2.1) (fun _ => rfl) fun _ _ _ => (by kernel_rfl)
end octet_All
def bk_octet_All : Book := bk_octet_of.add 46 octet_All.con
theorem bk_octet_All_ok : BookOk Tryd.prog bk_octet_All := bk_octet_of_ok.add octet_All.ok
namespace number_read
def D : Dom := ⟨[], (.cat .str (.cat (.int .i64) (.cat (.int .i64) (.int .i64))))⟩
namespace L6
def D : Dom := ⟨[], (.cat .str (.cat (.int .i64) (.cat (.int .i64) (.cat (.int .i64) (.cat (.int .i64) (.int .i64))))))⟩
def A : Dom := ⟨[], (.int .i64)⟩
def B : Dom := ⟨[], (.cat (.int .i64) (.int .i64))⟩
def sel : List Nat := [0, 1, 2, 3, 4, 5]
def t (s : List UInt8) (base : Int) (most : Int) (n : Int) (t26 : Int) (t27 : Int) : Tr ((Int × Int) ⊕ ((Int) ⊕ (Int × Int))) :=
 .br (decide (t27 < t26)) (.chk ((0 : Int) ≤ t27 ∧ t27 < (↑s.length : Int)) <| .call (octet_Hex.f (↑(s.getD t27.toNat (0 : UInt8)).toNat : Int)) fun (y1a, _) =>
  .br (decide (y1a > most)) (.ret (.inr (.inr ((0 : Int), (23 : Int)))))
  (.chk (base ≠ (0 : Int)) <| .br (decide (n > IntKind.i64.wrap ((IntKind.i64.wrap (most - y1a)).tdiv base))) (.ret (.inr (.inr ((0 : Int), (23 : Int)))))
  (.ret (.inl (IntKind.i64.wrap (IntKind.i64.wrap (n * base) + y1a), IntKind.i64.wrap (t27 + (1 : Int)))))))
 (.ret (.inr (.inl n)))
def f (s : List UInt8) (base : Int) (most : Int) (n : Int) (t26 : Int) (t27 : Int) : Option ((Int) ⊕ (Int × Int)) := Loop (fun z : Int × Int => t s base most z.1 t26 z.2) (n, t27)
def F (x : D.den) : Option ((Int) ⊕ (Int × Int)) := f x.2.1 x.2.2.1 x.2.2.2.1 x.2.2.2.2.1 x.2.2.2.2.2.1 x.2.2.2.2.2.2
def pa : D.den → (Int) → A.den := fun (_, (_, (_, (_, (_, (_, _)))))) y1 => ((), y1)
def pb : D.den → (Int × Int) → B.den := fun (_, (_, (_, (_, (_, (_, _)))))) (y1, y2) => ((), (y1, y2))
def lap : Lap := tlap2 6 56 [0, 1, 2, 10, 26, 27] D (.exit 0) [10] A .ret [8, 9] B pa pb F
def pk (x : D.den) (z : Int × Int) : D.den := ((), (x.2.1, (x.2.2.1, (x.2.2.2.1, (z.1, (x.2.2.2.2.2.1, z.2))))))
def un (x : D.den) : Int × Int := (x.2.2.2.2.1, x.2.2.2.2.2.2)
def body (x : D.den) (z : Int × Int) : Tr ((Int × Int) ⊕ ((Int) ⊕ (Int × Int))) := t x.2.1 x.2.2.1 x.2.2.2.1 z.1 x.2.2.2.2.2.1 z.2
theorem ok : LapOk Tryd.prog 0 (codeOf Tryd.prog 37) lap := tlap2_ok Base.mixed Base.prog_ok bk_octet_All_ok (by kernel_rfl) (by kernel_rfl) LapsOk.nil 9 pk un body (fun _ _ => rfl) (fun _ _ => rfl) (fun _ _ => rfl) (fun _ _ => rfl) (fun _ => rfl) fun _ _ _ _ => (by kernel_rfl)
end L6
def A : Dom := ⟨[], (.tup (.cat (.int .i64) (.int .i64)))⟩
def sel : List Nat := [0, 1, 2, 3]
def t (s : List UInt8) (base : Int) (most : Int) (kind : Int) : Tr (Int × Int) :=
 .br (s == []) (.ret ((0 : Int), (22 : Int)))
 (.call (octet_All.f [kind] s) fun y1 =>
  .br (!y1) (.ret ((0 : Int), (22 : Int)))
  (.both (number_read.L6.f s base (mx2 most (0 : Int)) (0 : Int) (↑s.length : Int) (0 : Int)) (fun y2 => .ret (y2, (0 : Int)))
  (fun (y3a, y3b) => .ret (y3a, y3b))))
def f (s : List UInt8) (base : Int) (most : Int) (kind : Int) : Option (Int × Int) := (t s base most kind).val
def F (x : D.den) : Option (Int × Int) := f x.2.1 x.2.2.1 x.2.2.2.1 x.2.2.2.2
def pa : D.den → (Int × Int) → A.den := fun (_, (_, (_, (_, _)))) (y1, y2) => ((), (y1, y2))
def con : Con := tcon D A pa F
theorem ok : ConOk Tryd.prog 37 con := tcon_ok Base.mixed Base.prog_ok bk_octet_All_ok (by kernel_rfl) (.cons L6.ok (by kernel_rfl) (.nil)) 9 (fun _ => rfl) (fun x => t x.2.1 x.2.2.1 x.2.2.2.1 x.2.2.2.2) (fun _ => rfl) fun _ _ _ => (by kernel_rfl)
end number_read
def bk_number_read : Book := bk_octet_All.add 37 number_read.con
theorem bk_number_read_ok : BookOk Tryd.prog bk_number_read := bk_octet_All_ok.add number_read.ok
namespace number_Dec
def D : Dom := ⟨[], (.cat .str (.int .i64))⟩
def A : Dom := ⟨[], (.tup (.cat (.int .i64) (.int .i64)))⟩
def sel : List Nat := [0, 1]
def t (s : List UInt8) (most : Int) : Tr (Int × Int) :=
 .call (number_read.f s (10 : Int) most (4 : Int)) fun (y1a, y1b) =>
 .ret (y1a, y1b)
def f (s : List UInt8) (most : Int) : Option (Int × Int) := (t s most).val
def F (x : D.den) : Option (Int × Int) := f x.2.1 x.2.2
def pa : D.den → (Int × Int) → A.den := fun (_, (_, _)) (y1, y2) => ((), (y1, y2))
def con : Con := tcon D A pa F
theorem ok : ConOk Tryd.prog 27 con := tcon_ok Base.mixed Base.prog_ok bk_number_read_ok (by kernel_rfl) LapsOk.nil 9 (fun _ => rfl) (fun x => t x.2.1 x.2.2) (fun _ => rfl) fun _ _ _ => (by kernel_rfl)
end number_Dec
def bk_number_Dec : Book := bk_number_read.add 27 number_Dec.con
theorem bk_number_Dec_ok : BookOk Tryd.prog bk_number_Dec := bk_number_read_ok.add number_Dec.ok
namespace number_Put
def D : Dom := ⟨[], (.int .i64)⟩
def A : Dom := ⟨[], .str⟩
def sel : List Nat := [0]
def t (n : Int) : Tr (List UInt8) :=
 .call (strconv_Itoa.f (mx2 n (0 : Int))) fun y1 =>
 .ret y1
def f (n : Int) : Option (List UInt8) := (t n).val
def F (x : D.den) : Option (List UInt8) := f x.2
def pa : D.den → (List UInt8) → A.den := fun (_, _) y1 => ((), y1)
def con : Con := tcon D A pa F
theorem ok : ConOk Tryd.prog 23 con := tcon_ok Base.mixed Base.prog_ok bk_number_Dec_ok (by kernel_rfl) LapsOk.nil 9 (fun _ => rfl) (fun x => t x.2) (fun _ => rfl) fun _ _ _ => (by kernel_rfl)
end number_Put
def bk_number_Put : Book := bk_number_Dec.add 23 number_Put.con
theorem bk_number_Put_ok : BookOk Tryd.prog bk_number_Put := bk_number_Dec_ok.add number_Put.ok
namespace net_short
def D : Dom := ⟨[], (.cat .str (.int .i64))⟩
def A : Dom := ⟨[], (.tup (.cat (.int .i64) .bool))⟩
def sel : List Nat := [0, 1]
def t (s : List UInt8) (most : Int) : Tr (Int × Bool) :=
 .call (number_Dec.f s most) fun (y1a, y1b) =>
 .br (y1b == (0 : Int)) (.call (number_Put.f y1a) fun y2 =>
  .ret (y1a, y2 == s))
 (.ret (y1a, false))
def f (s : List UInt8) (most : Int) : Option (Int × Bool) := (t s most).val
def F (x : D.den) : Option (Int × Bool) := f x.2.1 x.2.2
def pa : D.den → (Int × Bool) → A.den := fun (_, (_, _)) (y1, y2) => ((), (y1, y2))
def con : Con := tcon D A pa F
theorem ok : ConOk Tryd.prog 18 con := tcon_ok Base.mixed Base.prog_ok bk_number_Put_ok (by kernel_rfl) LapsOk.nil 9 (fun _ => rfl) (fun x => t x.2.1 x.2.2) (fun _ => rfl) fun _ _ _ => (by kernel_rfl)
end net_short
def bk_net_short : Book := bk_number_Put.add 18 net_short.con
theorem bk_net_short_ok : BookOk Tryd.prog bk_net_short := bk_number_Put_ok.add net_short.ok
namespace internal_stringslite_Index_sx2e
def D : Dom := ⟨[], (.cat .str (.lit (.str false [46])))⟩
def A : Dom := ⟨[], (.int .i64)⟩
def sel : List Nat := [0]
def t (s : List UInt8) : Tr (Int) :=
 .br ([(46 : UInt8)] == s) (.ret (0 : Int))
 (.call (slite_IndexByte.f s (46 : Int)) fun y1 =>
  .ret y1)
def f (s : List UInt8) : Option (Int) := (t s).val
def F (x : D.den) : Option (Int) := f x.2.1
def pa : D.den → (Int) → A.den := fun (_, (_, _)) y1 => ((), y1)
def con : Con := tcon D A pa F
theorem ok : ConOk Tryd.prog 39 con := tcon_ok Base.mixed Base.prog_ok bk_net_short_ok (by kernel_rfl) LapsOk.nil 9 (fun _ => rfl) (fun x => t x.2.1) (fun _ => rfl) fun _ _ _ => (by kernel_rfl)
end internal_stringslite_Index_sx2e
def bk_internal_stringslite_Index_sx2e : Book := bk_net_short.addS 39 (fun a => isStr 1 [46] a) internal_stringslite_Index_sx2e.con
theorem bk_internal_stringslite_Index_sx2e_ok : BookOk Tryd.prog bk_internal_stringslite_Index_sx2e := bk_net_short_ok.addS internal_stringslite_Index_sx2e.ok
namespace strings_Index_sx2e
def D : Dom := ⟨[], (.cat .str (.lit (.str false [46])))⟩
def A : Dom := ⟨[], (.int .i64)⟩
def sel : List Nat := [0]
def t (s : List UInt8) : Tr (Int) :=
 .call (internal_stringslite_Index_sx2e.f s) fun y1 =>
 .ret y1
def f (s : List UInt8) : Option (Int) := (t s).val
def F (x : D.den) : Option (Int) := f x.2.1
def pa : D.den → (Int) → A.den := fun (_, (_, _)) y1 => ((), y1)
def con : Con := tcon D A pa F
theorem ok : ConOk Tryd.prog 36 con := tcon_ok Base.mixed Base.prog_ok bk_internal_stringslite_Index_sx2e_ok (by kernel_rfl) LapsOk.nil 9 (fun _ => rfl) (fun x => t x.2.1) (fun _ => rfl) fun _ _ _ => (by kernel_rfl)
end strings_Index_sx2e
def bk_strings_Index_sx2e : Book := bk_internal_stringslite_Index_sx2e.addS 36 (fun a => isStr 1 [46] a) strings_Index_sx2e.con
theorem bk_strings_Index_sx2e_ok : BookOk Tryd.prog bk_strings_Index_sx2e := bk_internal_stringslite_Index_sx2e_ok.addS strings_Index_sx2e.ok
namespace strings_genSplit_sx2e
def D : Dom := ⟨[], (.cat .str (.cat (.lit (.str false [46])) (.cat (.int .i64) (.int .i64))))⟩
namespace L11
def D : Dom := ⟨[.vec .str 9 false], (.cat .str (.cat (.lit (.str false [46])) (.cat (.int .i64) (.cat (.int .i64) (.cat (.sl 0 1) (.int .i64))))))⟩
def A : Dom := ⟨[.vec .str 9 false], (.cat .str (.cat (.sl 0 1) (.int .i64)))⟩
def sel : List Nat := [0, 1, 2, 3, 4]
def t (va : List (List UInt8)) (s : List UInt8) (sepSave : Int) (n : Int) (i : Int) : Tr ((List (List UInt8) × List UInt8 × Int) ⊕ (List (List UInt8) × List UInt8 × Int)) :=
 .br (decide (i < n)) (.call (strings_Index_sx2e.f s) fun y1 =>
  .br (decide (y1 < (0 : Int))) (.okl va.length <| .ret (.inr (va, s, i)))
  (.chk ((0 : Int) ≤ (0 : Int) ∧ (0 : Int) ≤ IntKind.i64.wrap (y1 + sepSave) ∧ IntKind.i64.wrap (y1 + sepSave) ≤ (↑s.length : Int)) <| .chk ((0 : Int) ≤ i ∧ i < (↑va.length : Int)) <| .chk ((0 : Nat) + i.toNat < va.length) <| .chk ((0 : Int) ≤ IntKind.i64.wrap (y1 + (1 : Int)) ∧ IntKind.i64.wrap (y1 + (1 : Int)) ≤ (↑s.length : Int) ∧ (↑s.length : Int) ≤ (↑s.length : Int)) <| .chk ((0 : Nat) = (0 : Nat) ∧ va.length = (va.set ((0 : Nat) + i.toNat) (List.drop (↑(0 : Nat) : Int).toNat (List.take (IntKind.i64.wrap (y1 + sepSave)).toNat s))).length) <| .ret (.inl (va.set ((0 : Nat) + i.toNat) (List.drop (↑(0 : Nat) : Int).toNat (List.take (IntKind.i64.wrap (y1 + sepSave)).toNat s)), List.drop (IntKind.i64.wrap (y1 + (1 : Int))).toNat (List.take (↑s.length : Int).toNat s), IntKind.i64.wrap (i + (1 : Int))))))
 (.okl va.length <| .ret (.inr (va, s, i)))
def f (va : List (List UInt8)) (s : List UInt8) (sepSave : Int) (n : Int) (i : Int) : Option (List (List UInt8) × List UInt8 × Int) := Loop (fun z : List (List UInt8) × List UInt8 × Int => t z.1 z.2.1 sepSave n z.2.2) (va, s, i)
def F (x : D.den) : Option (List (List UInt8) × List UInt8 × Int) := f x.1.1 x.2.1 x.2.2.2.1 x.2.2.2.2.1 x.2.2.2.2.2.2
def pa : D.den → (List (List UInt8) × List UInt8 × Int) → A.den := fun ((_, _), (_, (_, (_, (_, (_, _)))))) (y1, y2, y3) => ((y1, ()), (y2, ((), y3)))
def lap : Lap := tlap 11 66 [0, 1, 2, 3, 9, 10] D (.exit 0) [0, 9, 10] A pa F
def pk (x : D.den) (z : List (List UInt8) × List UInt8 × Int) : D.den := ((z.1, ()), (z.2.1, ((), (x.2.2.2.1, (x.2.2.2.2.1, ((), z.2.2))))))
def un (x : D.den) : List (List UInt8) × List UInt8 × Int := (x.1.1, x.2.1, x.2.2.2.2.2.2)
def body (x : D.den) (z : List (List UInt8) × List UInt8 × Int) : Tr ((List (List UInt8) × List UInt8 × Int) ⊕ (List (List UInt8) × List UInt8 × Int)) := t z.1 z.2.1 x.2.2.2.1 x.2.2.2.2.1 z.2.2
theorem ok : LapOk Tryd.prog 0 (codeOf Tryd.prog 26) lap := tlap_ok Base.mixed Base.prog_ok bk_strings_Index_sx2e_ok (by kernel_rfl) (by kernel_rfl) LapsOk.nil 9 pk un body (fun _ _ => rfl) (fun _ _ => rfl) (fun _ _ => rfl) (fun _ => rfl) fun _ _ _ _ => (by kernel_rfl)
end L11
def A : Dom := ⟨[.vec .str 9 false], (.sl 0 1)⟩
def sel : List Nat := [0, 1, 2]
def t (s : List UInt8) (sepSave : Int) (n : Int) : Tr (List (List UInt8)) :=
 .br (n == (0 : Int)) (.ret [])
 (.br (decide (n < (0 : Int))) (.call (strings_Count.f s [(46 : UInt8)]) fun y1 =>
  .chk ((0 : Int) ≤ mn2 (IntKind.i64.wrap (y1 + (1 : Int))) (IntKind.i64.wrap ((↑s.length : Int) + (1 : Int))) ∧ mn2 (IntKind.i64.wrap (y1 + (1 : Int))) (IntKind.i64.wrap ((↑s.length : Int) + (1 : Int))) ≤ mn2 (IntKind.i64.wrap (y1 + (1 : Int))) (IntKind.i64.wrap ((↑s.length : Int) + (1 : Int))) ∧ mn2 (IntKind.i64.wrap (y1 + (1 : Int))) (IntKind.i64.wrap ((↑s.length : Int) + (1 : Int))) * (↑(16 : Nat) : Int) ≤ (140737488355328 : Int) ∧ mn2 (IntKind.i64.wrap (y1 + (1 : Int))) (IntKind.i64.wrap ((↑s.length : Int) + (1 : Int))) ≤ (140737488355328 : Int)) <| .chk ((0 : Nat) = (0 : Nat) ∧ (mn2 (IntKind.i64.wrap (y1 + (1 : Int))) (IntKind.i64.wrap ((↑s.length : Int) + (1 : Int)))).toNat = (List.replicate (mn2 (IntKind.i64.wrap (y1 + (1 : Int))) (IntKind.i64.wrap ((↑s.length : Int) + (1 : Int)))).toNat ([] : List UInt8)).length) <| .call (strings_genSplit_sx2e.L11.f (List.replicate (mn2 (IntKind.i64.wrap (y1 + (1 : Int))) (IntKind.i64.wrap ((↑s.length : Int) + (1 : Int)))).toNat ([] : List UInt8)) s sepSave (IntKind.i64.wrap (mn2 (IntKind.i64.wrap (y1 + (1 : Int))) (IntKind.i64.wrap ((↑s.length : Int) + (1 : Int))) - (1 : Int))) (0 : Int)) fun (y2a, y2b, y2c) =>
  .chk ((0 : Int) ≤ y2c ∧ y2c < (↑y2a.length : Int)) <| .chk ((0 : Nat) + y2c.toNat < y2a.length) <| .chk ((0 : Int) ≤ (0 : Int) ∧ (0 : Int) ≤ IntKind.i64.wrap (y2c + (1 : Int)) ∧ IntKind.i64.wrap (y2c + (1 : Int)) ≤ (↑y2a.length : Int)) <| .chk ((0 : Nat) = (0 : Nat) ∧ (IntKind.i64.wrap (y2c + (1 : Int)) - (↑(0 : Nat) : Int)).toNat = (y2a.set ((0 : Nat) + y2c.toNat) y2b).length) <| .ret (y2a.set ((0 : Nat) + y2c.toNat) y2b))
  (.chk ((0 : Int) ≤ mn2 n (IntKind.i64.wrap ((↑s.length : Int) + (1 : Int))) ∧ mn2 n (IntKind.i64.wrap ((↑s.length : Int) + (1 : Int))) ≤ mn2 n (IntKind.i64.wrap ((↑s.length : Int) + (1 : Int))) ∧ mn2 n (IntKind.i64.wrap ((↑s.length : Int) + (1 : Int))) * (↑(16 : Nat) : Int) ≤ (140737488355328 : Int) ∧ mn2 n (IntKind.i64.wrap ((↑s.length : Int) + (1 : Int))) ≤ (140737488355328 : Int)) <| .chk ((0 : Nat) = (0 : Nat) ∧ (mn2 n (IntKind.i64.wrap ((↑s.length : Int) + (1 : Int)))).toNat = (List.replicate (mn2 n (IntKind.i64.wrap ((↑s.length : Int) + (1 : Int)))).toNat ([] : List UInt8)).length) <| .call (strings_genSplit_sx2e.L11.f (List.replicate (mn2 n (IntKind.i64.wrap ((↑s.length : Int) + (1 : Int)))).toNat ([] : List UInt8)) s sepSave (IntKind.i64.wrap (mn2 n (IntKind.i64.wrap ((↑s.length : Int) + (1 : Int))) - (1 : Int))) (0 : Int)) fun (y3a, y3b, y3c) =>
  .chk ((0 : Int) ≤ y3c ∧ y3c < (↑y3a.length : Int)) <| .chk ((0 : Nat) + y3c.toNat < y3a.length) <| .chk ((0 : Int) ≤ (0 : Int) ∧ (0 : Int) ≤ IntKind.i64.wrap (y3c + (1 : Int)) ∧ IntKind.i64.wrap (y3c + (1 : Int)) ≤ (↑y3a.length : Int)) <| .chk ((0 : Nat) = (0 : Nat) ∧ (IntKind.i64.wrap (y3c + (1 : Int)) - (↑(0 : Nat) : Int)).toNat = (y3a.set ((0 : Nat) + y3c.toNat) y3b).length) <| .ret (y3a.set ((0 : Nat) + y3c.toNat) y3b)))
def f (s : List UInt8) (sepSave : Int) (n : Int) : Option (List (List UInt8)) := (t s sepSave n).val
def F (x : D.den) : Option (List (List UInt8)) := f x.2.1 x.2.2.2.1 x.2.2.2.2
def pa : D.den → (List (List UInt8)) → A.den := fun (_, (_, (_, (_, _)))) y1 => ((y1, ()), ())
def con : Con := tcon D A pa F
theorem ok : ConOk Tryd.prog 26 con := tcon_ok Base.mixed Base.prog_ok bk_strings_Index_sx2e_ok (by kernel_rfl) (.cons L11.ok (by kernel_rfl) (.nil)) 9 (fun _ => rfl) (fun x => t x.2.1 x.2.2.2.1 x.2.2.2.2) (fun _ => rfl) fun _ _ _ => (by kernel_rfl)
end strings_genSplit_sx2e
def bk_strings_genSplit_sx2e : Book := bk_strings_Index_sx2e.addS 26 (fun a => isStr 1 [46] a) strings_genSplit_sx2e.con
theorem bk_strings_genSplit_sx2e_ok : BookOk Tryd.prog bk_strings_genSplit_sx2e := bk_strings_Index_sx2e_ok.addS strings_genSplit_sx2e.ok
namespace strings_Split_sx2e
def D : Dom := ⟨[], (.cat .str (.lit (.str false [46])))⟩
def A : Dom := ⟨[.vec .str 9 false], (.sl 0 1)⟩
def sel : List Nat := [0]
def t (s : List UInt8) : Tr (List (List UInt8)) :=
 .call (strings_genSplit_sx2e.f s (0 : Int) (-1 : Int)) fun y1 =>
 .okl y1.length <| .ret y1
def f (s : List UInt8) : Option (List (List UInt8)) := (t s).val
def F (x : D.den) : Option (List (List UInt8)) := f x.2.1
def pa : D.den → (List (List UInt8)) → A.den := fun (_, (_, _)) y1 => ((y1, ()), ())
def con : Con := tcon D A pa F
theorem ok : ConOk Tryd.prog 17 con := tcon_ok Base.mixed Base.prog_ok bk_strings_genSplit_sx2e_ok (by kernel_rfl) LapsOk.nil 9 (fun _ => rfl) (fun x => t x.2.1) (fun _ => rfl) fun _ _ _ => (by kernel_rfl)
end strings_Split_sx2e
def bk_strings_Split_sx2e : Book := bk_strings_genSplit_sx2e.addS 17 (fun a => isStr 1 [46] a) strings_Split_sx2e.con
theorem bk_strings_Split_sx2e_ok : BookOk Tryd.prog bk_strings_Split_sx2e := bk_strings_genSplit_sx2e_ok.addS strings_Split_sx2e.ok
namespace net_IP
def D : Dom := ⟨[], .str⟩
namespace L6
def D : Dom := ⟨[.vec .str 9 false], (.cat (.int .u32) (.cat (.sl 0 1) (.cat (.int .i64) (.int .i64))))⟩
def A : Dom := ⟨[], (.int .u32)⟩
def B : Dom := ⟨[], (.cat (.int .u32) .bool)⟩
def sel : List Nat := [0, 1, 2, 3]
def t (t15 : List (List UInt8)) (out : Int) (t16 : Int) (t17 : Int) : Tr ((Int × Int) ⊕ ((Int) ⊕ (Int × Bool))) :=
 .br (decide (t17 < t16)) (.chk ((0 : Int) ≤ t17 ∧ t17 < (↑t15.length : Int)) <| .chk ((0 : Nat) + t17.toNat < t15.length) <| .call (net_short.f (t15.getD ((0 : Nat) + t17.toNat) []) (255 : Int)) fun (y1a, y1b) =>
  .br (!y1b) (.ret (.inr (.inr ((0 : Int), false))))
  (.okl t15.length <| .ret (.inl (IntKind.u32.wrap (↑(BitVec.ofInt IntKind.u32.bits (IntKind.u32.wrap (out * (2 : Int) ^ (8 : Nat))) ||| BitVec.ofInt IntKind.u32.bits (IntKind.u32.wrap y1a)).toNat : Int), IntKind.i64.wrap (t17 + (1 : Int))))))
 (.ret (.inr (.inl out)))
def f (t15 : List (List UInt8)) (out : Int) (t16 : Int) (t17 : Int) : Option ((Int) ⊕ (Int × Bool)) := Loop (fun z : Int × Int => t t15 z.1 t16 z.2) (out, t17)
def F (x : D.den) : Option ((Int) ⊕ (Int × Bool)) := f x.1.1 x.2.1 x.2.2.2.1 x.2.2.2.2
def pa : D.den → (Int) → A.den := fun ((_, _), (_, (_, (_, _)))) y1 => ((), y1)
def pb : D.den → (Int × Bool) → B.den := fun ((_, _), (_, (_, (_, _)))) (y1, y2) => ((), (y1, y2))
def lap : Lap := tlap2 6 35 [5, 15, 16, 17] D (.exit 0) [5] A .ret [2, 3] B pa pb F
def pk (x : D.den) (z : Int × Int) : D.den := ((x.1.1, ()), (z.1, ((), (x.2.2.2.1, z.2))))
def un (x : D.den) : Int × Int := (x.2.1, x.2.2.2.2)
def body (x : D.den) (z : Int × Int) : Tr ((Int × Int) ⊕ ((Int) ⊕ (Int × Bool))) := t x.1.1 z.1 x.2.2.2.1 z.2
theorem ok : LapOk Tryd.prog 0 (codeOf Tryd.prog 9) lap := tlap2_ok Base.mixed Base.prog_ok bk_strings_Split_sx2e_ok (by kernel_rfl) (by kernel_rfl) LapsOk.nil 9 pk un body (fun _ _ => rfl) (fun _ _ => rfl) (fun _ _ => rfl) (fun _ _ => rfl) (fun _ => rfl) fun _ _ _ _ => (by kernel_rfl)
end L6
def A : Dom := ⟨[], (.tup (.cat (.int .u32) .bool))⟩
def sel : List Nat := [0]
def t (s : List UInt8) : Tr (Int × Bool) :=
 .call (strings_Split_sx2e.f s) fun y1 =>
 .br ((↑y1.length : Int) != (4 : Int)) (.ret ((0 : Int), false))
 (.okl y1.length <| .both (net_IP.L6.f y1 (0 : Int) (↑y1.length : Int) (0 : Int)) (fun y2 => .ret (y2, true))
  (fun (y3a, y3b) => .ret (y3a, y3b)))
def f (s : List UInt8) : Option (Int × Bool) := (t s).val
def F (x : D.den) : Option (Int × Bool) := f x.2
def pa : D.den → (Int × Bool) → A.den := fun (_, _) (y1, y2) => ((), (y1, y2))
def con : Con := tcon D A pa F
theorem ok : ConOk Tryd.prog 9 con := tcon_ok Base.mixed Base.prog_ok bk_strings_Split_sx2e_ok (by kernel_rfl) (.cons L6.ok (by kernel_rfl) (.nil)) 9 (fun _ => rfl) (fun x => t x.2) (fun _ => rfl) fun _ _ _ => (by kernel_rfl)
end net_IP
def bk_net_IP : Book := bk_strings_Split_sx2e.add 9 net_IP.con
theorem bk_net_IP_ok : BookOk Tryd.prog bk_net_IP := bk_strings_Split_sx2e_ok.add net_IP.ok
namespace ref1_Split
def D : Dom := ⟨[], (.cat .str (.int .u8))⟩
namespace L4
def D : Dom := ⟨[.vec .str 9 false], (.cat .str (.cat (.int .u8) (.cat (.sl 0 1) (.cat (.int .i64) (.int .i64)))))⟩
def A : Dom := ⟨[.vec .str 9 false], (.sl 0 1)⟩
def sel : List Nat := [0, 1, 2, 3, 4]
def t (out : List (List UInt8)) (s : List UInt8) (c : Int) (vfrom : Int) (i : Int) : Tr ((List (List UInt8) × Int × Int) ⊕ (List (List UInt8))) :=
 .br (decide (i ≤ (↑s.length : Int))) (.br (i == (↑s.length : Int)) (.chk ((0 : Int) ≤ vfrom ∧ vfrom ≤ i ∧ i ≤ (↑s.length : Int)) <| .chk ((0 : Nat) + out.length ≤ out.length) <| .chk ((out.length + (1 : Nat)) * (16 : Nat) ≤ (140737488355328 : Nat)) <| .chk ((0 : Nat) = (0 : Nat) ∧ out.length + (1 : Nat) = (List.take out.length (List.drop (0 : Nat) out) ++ [List.drop vfrom.toNat (List.take i.toNat s)]).length) <| .ret (.inl (List.take out.length (List.drop (0 : Nat) out) ++ [List.drop vfrom.toNat (List.take i.toNat s)], IntKind.i64.wrap (i + (1 : Int)), IntKind.i64.wrap (i + (1 : Int)))))
  (.chk ((0 : Int) ≤ i ∧ i < (↑s.length : Int)) <| .br ((↑(s.getD i.toNat (0 : UInt8)).toNat : Int) == c) (.chk ((0 : Int) ≤ vfrom ∧ vfrom ≤ i ∧ i ≤ (↑s.length : Int)) <| .chk ((0 : Nat) + out.length ≤ out.length) <| .chk ((out.length + (1 : Nat)) * (16 : Nat) ≤ (140737488355328 : Nat)) <| .chk ((0 : Nat) = (0 : Nat) ∧ out.length + (1 : Nat) = (List.take out.length (List.drop (0 : Nat) out) ++ [List.drop vfrom.toNat (List.take i.toNat s)]).length) <| .ret (.inl (List.take out.length (List.drop (0 : Nat) out) ++ [List.drop vfrom.toNat (List.take i.toNat s)], IntKind.i64.wrap (i + (1 : Int)), IntKind.i64.wrap (i + (1 : Int)))))
  (.okl out.length <| .ret (.inl (out, vfrom, IntKind.i64.wrap (i + (1 : Int)))))))
 (.okl out.length <| .ret (.inr out))
def f (out : List (List UInt8)) (s : List UInt8) (c : Int) (vfrom : Int) (i : Int) : Option (List (List UInt8)) := Loop (fun z : List (List UInt8) × Int × Int => t z.1 s c z.2.1 z.2.2) (out, vfrom, i)
def F (x : D.den) : Option (List (List UInt8)) := f x.1.1 x.2.1 x.2.2.1 x.2.2.2.2.1 x.2.2.2.2.2
def pa : D.den → (List (List UInt8)) → A.den := fun ((_, _), (_, (_, (_, (_, _))))) y1 => ((y1, ()), ())
def lap : Lap := tlap 4 35 [0, 1, 5, 6, 7] D (.exit 0) [5] A pa F
def pk (x : D.den) (z : List (List UInt8) × Int × Int) : D.den := ((z.1, ()), (x.2.1, (x.2.2.1, ((), (z.2.1, z.2.2)))))
def un (x : D.den) : List (List UInt8) × Int × Int := (x.1.1, x.2.2.2.2.1, x.2.2.2.2.2)
def body (x : D.den) (z : List (List UInt8) × Int × Int) : Tr ((List (List UInt8) × Int × Int) ⊕ (List (List UInt8))) := t z.1 x.2.1 x.2.2.1 z.2.1 z.2.2
theorem ok : LapOk Tryd.prog 0 (codeOf Tryd.prog 19) lap := tlap_ok Base.mixed Base.prog_ok bk_net_IP_ok (by kernel_rfl) (by kernel_rfl) LapsOk.nil 9 pk un body (fun _ _ => rfl) (fun _ _ => rfl) (fun _ _ => rfl) (fun _ => rfl) fun _ _ _ _ => (by kernel_rfl)
end L4
def A : Dom := ⟨[.vec .str 9 false], (.sl 0 1)⟩
def sel : List Nat := [0, 1]
def t (s : List UInt8) (c : Int) : Tr (List (List UInt8)) :=
 .call (ref1_Split.L4.f [] s c (0 : Int) (0 : Int)) fun y1 =>
 .okl y1.length <| .ret y1
def f (s : List UInt8) (c : Int) : Option (List (List UInt8)) := (t s c).val
def F (x : D.den) : Option (List (List UInt8)) := f x.2.1 x.2.2
def pa : D.den → (List (List UInt8)) → A.den := fun (_, (_, _)) y1 => ((y1, ()), ())
def con : Con := tcon D A pa F
theorem ok : ConOk Tryd.prog 19 con := tcon_ok Base.mixed Base.prog_ok bk_net_IP_ok (by kernel_rfl) (.cons L4.ok (by kernel_rfl) (.nil)) 9 (fun _ => rfl) (fun x => t x.2.1 x.2.2) (fun _ => rfl) fun _ _ _ => (by kernel_rfl)
end ref1_Split
def bk_ref1_Split : Book := bk_net_IP.add 19 ref1_Split.con
theorem bk_ref1_Split_ok : BookOk Tryd.prog bk_ref1_Split := bk_net_IP_ok.add ref1_Split.ok
namespace ref1_Digit
def D : Dom := ⟨[], (.int .u8)⟩
def A : Dom := ⟨[], .bool⟩
def sel : List Nat := [0]
def t (c : Int) : Tr (Bool) :=
 .br (decide (c ≥ (48 : Int))) (.ret (decide (c ≤ (57 : Int))))
 (.ret false)
def f (c : Int) : Option (Bool) := (t c).val
def F (x : D.den) : Option (Bool) := f x.2
def pa : D.den → (Bool) → A.den := fun (_, _) y1 => ((), y1)
def con : Con := tcon D A pa F
theorem ok : ConOk Tryd.prog 60 con := tcon_ok Base.mixed Base.prog_ok bk_ref1_Split_ok (by kernel_rfl) LapsOk.nil 9 (fun _ => rfl) (fun x => t x.2) (fun _ => rfl) fun _ _ _ => (by kernel_rfl)
end ref1_Digit
def bk_ref1_Digit : Book := bk_ref1_Split.add 60 ref1_Digit.con
theorem bk_ref1_Digit_ok : BookOk Tryd.prog bk_ref1_Digit := bk_ref1_Split_ok.add ref1_Digit.ok
end Go.Vx
end
section
set_option maxRecDepth 1000000
set_option maxHeartbeats 4000000
set_option synthInstance.maxSize 100000
set_option synthInstance.maxHeartbeats 400000
set_option linter.unusedVariables false
namespace Go.Vx
open Go Go.Vx Go.Proofs
namespace ref1_Hex
def D : Dom := ⟨[], (.int .u8)⟩
def A : Dom := ⟨[], (.tup (.cat (.int .i64) .bool))⟩
def sel : List Nat := [0]
def t (c : Int) : Tr (Int × Bool) :=
 .call (ref1_Digit.f c) fun y1 =>
 .br y1 (.ret (IntKind.i64.wrap (IntKind.u8.wrap (c - (48 : Int))), true))
 (.br (decide (c ≥ (97 : Int))) (.br (decide (c ≤ (102 : Int))) (.ret (IntKind.i64.wrap (IntKind.i64.wrap (IntKind.u8.wrap (c - (97 : Int))) + (10 : Int)), true))
  (.br (decide (c ≥ (65 : Int))) (.br (decide (c ≤ (70 : Int))) (.ret (IntKind.i64.wrap (IntKind.i64.wrap (IntKind.u8.wrap (c - (65 : Int))) + (10 : Int)), true))
   (.ret ((0 : Int), false)))
   (.ret ((0 : Int), false))))
  (.br (decide (c ≥ (65 : Int))) (.br (decide (c ≤ (70 : Int))) (.ret (IntKind.i64.wrap (IntKind.i64.wrap (IntKind.u8.wrap (c - (65 : Int))) + (10 : Int)), true))
   (.ret ((0 : Int), false)))
  (.ret ((0 : Int), false))))
def f (c : Int) : Option (Int × Bool) := (t c).val
def F (x : D.den) : Option (Int × Bool) := f x.2
def pa : D.den → (Int × Bool) → A.den := fun (_, _) (y1, y2) => ((), (y1, y2))
def con : Con := tcon D A pa F
theorem ok : ConOk Tryd.prog 48 con := tcon_ok Base.mixed Base.prog_ok bk_ref1_Digit_ok (by kernel_rfl) LapsOk.nil 9 (fun _ => rfl) (fun x => t x.2) (fun _ => rfl) fun _ _ _ => (by kernel_rfl)
end ref1_Hex
def bk_ref1_Hex : Book := bk_ref1_Digit.add 48 ref1_Hex.con
theorem bk_ref1_Hex_ok : BookOk Tryd.prog bk_ref1_Hex := bk_ref1_Digit_ok.add ref1_Hex.ok
namespace ref1_number
def D : Dom := ⟨[], (.cat .str (.cat (.int .i64) (.int .i64)))⟩
namespace L6
def D : Dom := ⟨[], (.cat .str (.cat (.int .i64) (.cat (.int .i64) (.cat (.int .i64) (.cat .bool (.int .i64))))))⟩
def A : Dom := ⟨[], (.cat (.int .i64) .bool)⟩
def B : Dom := ⟨[], (.cat (.int .i64) (.int .i64))⟩
def sel : List Nat := [0, 1, 2, 3, 4, 5]
def t (s : List UInt8) (base : Int) (most : Int) (n : Int) (over : Bool) (i : Int) : Tr ((Int × Bool × Int) ⊕ ((Int × Bool) ⊕ (Int × Int))) :=
 .br (decide (i < (↑s.length : Int))) (.chk ((0 : Int) ≤ i ∧ i < (↑s.length : Int)) <| .call (ref1_Hex.f (↑(s.getD i.toNat (0 : UInt8)).toNat : Int)) fun (y1a, y1b) =>
  .br (!y1b) (.ret (.inr (.inr ((0 : Int), (22 : Int)))))
  (.br (decide (y1a ≥ base)) (.ret (.inr (.inr ((0 : Int), (22 : Int)))))
  (.br over (.ret (.inl (n, true, IntKind.i64.wrap (i + (1 : Int)))))
   (.chk (base ≠ (0 : Int)) <| .br (decide (n > IntKind.i64.wrap ((IntKind.i64.wrap (most - y1a)).tdiv base))) (.ret (.inl (n, true, IntKind.i64.wrap (i + (1 : Int)))))
   (.br (decide (y1a > most)) (.ret (.inl (n, true, IntKind.i64.wrap (i + (1 : Int)))))
    (.ret (.inl (IntKind.i64.wrap (IntKind.i64.wrap (n * base) + y1a), over, IntKind.i64.wrap (i + (1 : Int))))))))))
 (.ret (.inr (.inl (n, over))))
def f (s : List UInt8) (base : Int) (most : Int) (n : Int) (over : Bool) (i : Int) : Option ((Int × Bool) ⊕ (Int × Int)) := Loop (fun z : Int × Bool × Int => t s base most z.1 z.2.1 z.2.2) (n, over, i)
def F (x : D.den) : Option ((Int × Bool) ⊕ (Int × Int)) := f x.2.1 x.2.2.1 x.2.2.2.1 x.2.2.2.2.1 x.2.2.2.2.2.1 x.2.2.2.2.2.2
def pa : D.den → (Int × Bool) → A.den := fun (_, (_, (_, (_, (_, (_, _)))))) (y1, y2) => ((), (y1, y2))
def pb : D.den → (Int × Int) → B.den := fun (_, (_, (_, (_, (_, (_, _)))))) (y1, y2) => ((), (y1, y2))
def lap : Lap := tlap2 6 59 [0, 1, 2, 8, 9, 10] D (.exit 0) [8, 9] A .ret [6, 7] B pa pb F
def pk (x : D.den) (z : Int × Bool × Int) : D.den := ((), (x.2.1, (x.2.2.1, (x.2.2.2.1, (z.1, (z.2.1, z.2.2))))))
def un (x : D.den) : Int × Bool × Int := (x.2.2.2.2.1, x.2.2.2.2.2.1, x.2.2.2.2.2.2)
def body (x : D.den) (z : Int × Bool × Int) : Tr ((Int × Bool × Int) ⊕ ((Int × Bool) ⊕ (Int × Int))) := t x.2.1 x.2.2.1 x.2.2.2.1 z.1 z.2.1 z.2.2
theorem ok : LapOk Tryd.prog 0 (codeOf Tryd.prog 38) lap := tlap2_ok Base.mixed Base.prog_ok bk_ref1_Hex_ok (by kernel_rfl) (by kernel_rfl) LapsOk.nil 9 pk un body (fun _ _ => rfl) (fun _ _ => rfl) (fun _ _ => rfl) (fun _ _ => rfl) (fun _ => rfl) fun _ _ _ _ => (by kernel_rfl)
end L6
def A : Dom := ⟨[], (.tup (.cat (.int .i64) (.int .i64)))⟩
def sel : List Nat := [0, 1, 2]
def t (s : List UInt8) (base : Int) (most : Int) : Tr (Int × Int) :=
 .br (s == []) (.ret ((0 : Int), (22 : Int)))
 (.both (ref1_number.L6.f s base (mx2 most (0 : Int)) (0 : Int) false (0 : Int)) (fun (y1a, y1b) => .br y1b (.ret ((0 : Int), (23 : Int)))
  (.ret (y1a, (0 : Int))))
  (fun (y2a, y2b) => .ret (y2a, y2b)))
def f (s : List UInt8) (base : Int) (most : Int) : Option (Int × Int) := (t s base most).val
def F (x : D.den) : Option (Int × Int) := f x.2.1 x.2.2.1 x.2.2.2
def pa : D.den → (Int × Int) → A.den := fun (_, (_, (_, _))) (y1, y2) => ((), (y1, y2))
def con : Con := tcon D A pa F
theorem ok : ConOk Tryd.prog 38 con := tcon_ok Base.mixed Base.prog_ok bk_ref1_Hex_ok (by kernel_rfl) (.cons L6.ok (by kernel_rfl) (.nil)) 9 (fun _ => rfl) (fun x => t x.2.1 x.2.2.1 x.2.2.2) (fun _ => rfl) fun _ _ _ => (by kernel_rfl)
end ref1_number
def bk_ref1_number : Book := bk_ref1_Hex.add 38 ref1_number.con
theorem bk_ref1_number_ok : BookOk Tryd.prog bk_ref1_number := bk_ref1_Hex_ok.add ref1_number.ok
namespace ref1_Dec
def D : Dom := ⟨[], (.cat .str (.int .i64))⟩
def A : Dom := ⟨[], (.tup (.cat (.int .i64) (.int .i64)))⟩
def sel : List Nat := [0, 1]
def t (s : List UInt8) (most : Int) : Tr (Int × Int) :=
 .call (ref1_number.f s (10 : Int) most) fun (y1a, y1b) =>
 .ret (y1a, y1b)
def f (s : List UInt8) (most : Int) : Option (Int × Int) := (t s most).val
def F (x : D.den) : Option (Int × Int) := f x.2.1 x.2.2
def pa : D.den → (Int × Int) → A.den := fun (_, (_, _)) (y1, y2) => ((), (y1, y2))
def con : Con := tcon D A pa F
theorem ok : ConOk Tryd.prog 28 con := tcon_ok Base.mixed Base.prog_ok bk_ref1_number_ok (by kernel_rfl) LapsOk.nil 9 (fun _ => rfl) (fun x => t x.2.1 x.2.2) (fun _ => rfl) fun _ _ _ => (by kernel_rfl)
end ref1_Dec
def bk_ref1_Dec : Book := bk_ref1_number.add 28 ref1_Dec.con
theorem bk_ref1_Dec_ok : BookOk Tryd.prog bk_ref1_Dec := bk_ref1_number_ok.add ref1_Dec.ok
namespace ref1_put_r0
def D : Dom := ⟨[], (.cat (.int .i64) (.int .i64))⟩
def A : Dom := ⟨[], .str⟩
def sel : List Nat := []
def f : Option (List UInt8) := none
def F (x : D.den) : Option (List UInt8) := f
def pa : D.den → (List UInt8) → A.den := fun _ y1 => ((), y1)
def con : Con := tcon D A pa F
theorem ok : ConOk Tryd.prog 25 con := fun x h => absurd rfl h
end ref1_put_r0
def bk_ref1_put_r0 : Book := bk_ref1_Dec.add 25 ref1_put_r0.con
theorem bk_ref1_put_r0_ok : BookOk Tryd.prog bk_ref1_put_r0 := bk_ref1_Dec_ok.add ref1_put_r0.ok
namespace ref1_put_r1
def D : Dom := ⟨[], (.cat (.int .i64) (.int .i64))⟩
def A : Dom := ⟨[], .str⟩
def sel : List Nat := [0, 1]
def t (n : Int) (base : Int) : Tr (List UInt8) :=
 .br (decide (n < base)) (.chk ((0 : Int) ≤ mx2 n (0 : Int) ∧ mx2 n (0 : Int) ≤ IntKind.i64.wrap (mx2 n (0 : Int) + (1 : Int)) ∧ IntKind.i64.wrap (mx2 n (0 : Int) + (1 : Int)) ≤ (16 : Int)) <| .ret (List.drop (mx2 n (0 : Int)).toNat (List.take (IntKind.i64.wrap (mx2 n (0 : Int) + (1 : Int))).toNat [(48 : UInt8), (49 : UInt8), (50 : UInt8), (51 : UInt8), (52 : UInt8), (53 : UInt8), (54 : UInt8), (55 : UInt8), (56 : UInt8), (57 : UInt8), (97 : UInt8), (98 : UInt8), (99 : UInt8), (100 : UInt8), (101 : UInt8), (102 : UInt8)])))
 (.chk (base ≠ (0 : Int)) <| .call (ref1_put_r0.f) fun y1 =>
  .chk (base ≠ (0 : Int)) <| .call (ref1_put_r0.f) fun y2 =>
  .chk ((↑(y1.length + y2.length) : Int) ≤ (9223372036854775807 : Int)) <| .ret (y1 ++ y2))
def f (n : Int) (base : Int) : Option (List UInt8) := (t n base).val
def F (x : D.den) : Option (List UInt8) := f x.2.1 x.2.2
def pa : D.den → (List UInt8) → A.den := fun (_, (_, _)) y1 => ((), y1)
def con : Con := tcon D A pa F
theorem ok : ConOk Tryd.prog 25 con := tcon_ok Base.mixed Base.prog_ok bk_ref1_put_r0_ok (by kernel_rfl) LapsOk.nil 9 (fun _ => rfl) (fun x => t x.2.1 x.2.2) (fun _ => rfl) fun _ _ _ => (by kernel_rfl)
end ref1_put_r1
def bk_ref1_put_r1 : Book := bk_ref1_put_r0.add 25 ref1_put_r1.con
theorem bk_ref1_put_r1_ok : BookOk Tryd.prog bk_ref1_put_r1 := bk_ref1_put_r0_ok.add ref1_put_r1.ok
namespace ref1_put_r2
def D : Dom := ⟨[], (.cat (.int .i64) (.int .i64))⟩
def A : Dom := ⟨[], .str⟩
def sel : List Nat := [0, 1]
def t (n : Int) (base : Int) : Tr (List UInt8) :=
 .br (decide (n < base)) (.chk ((0 : Int) ≤ mx2 n (0 : Int) ∧ mx2 n (0 : Int) ≤ IntKind.i64.wrap (mx2 n (0 : Int) + (1 : Int)) ∧ IntKind.i64.wrap (mx2 n (0 : Int) + (1 : Int)) ≤ (16 : Int)) <| .ret (List.drop (mx2 n (0 : Int)).toNat (List.take (IntKind.i64.wrap (mx2 n (0 : Int) + (1 : Int))).toNat [(48 : UInt8), (49 : UInt8), (50 : UInt8), (51 : UInt8), (52 : UInt8), (53 : UInt8), (54 : UInt8), (55 : UInt8), (56 : UInt8), (57 : UInt8), (97 : UInt8), (98 : UInt8), (99 : UInt8), (100 : UInt8), (101 : UInt8), (102 : UInt8)])))
 (.chk (base ≠ (0 : Int)) <| .call (ref1_put_r1.f (IntKind.i64.wrap (n.tdiv base)) base) fun y1 =>
  .chk (base ≠ (0 : Int)) <| .call (ref1_put_r1.f (n.tmod base) base) fun y2 =>
  .chk ((↑(y1.length + y2.length) : Int) ≤ (9223372036854775807 : Int)) <| .ret (y1 ++ y2))
def f (n : Int) (base : Int) : Option (List UInt8) := (t n base).val
def F (x : D.den) : Option (List UInt8) := f x.2.1 x.2.2
def pa : D.den → (List UInt8) → A.den := fun (_, (_, _)) y1 => ((), y1)
def con : Con := tcon D A pa F
theorem ok : ConOk Tryd.prog 25 con := tcon_ok Base.mixed Base.prog_ok bk_ref1_put_r1_ok (by kernel_rfl) LapsOk.nil 9 (fun _ => rfl) (fun x => t x.2.1 x.2.2) (fun _ => rfl) fun _ _ _ => (by kernel_rfl)
end ref1_put_r2
def bk_ref1_put_r2 : Book := bk_ref1_put_r1.add 25 ref1_put_r2.con
theorem bk_ref1_put_r2_ok : BookOk Tryd.prog bk_ref1_put_r2 := bk_ref1_put_r1_ok.add ref1_put_r2.ok
namespace ref1_put_r3
def D : Dom := ⟨[], (.cat (.int .i64) (.int .i64))⟩
def A : Dom := ⟨[], .str⟩
def sel : List Nat := [0, 1]
def t (n : Int) (base : Int) : Tr (List UInt8) :=
 .br (decide (n < base)) (.chk ((0 : Int) ≤ mx2 n (0 : Int) ∧ mx2 n (0 : Int) ≤ IntKind.i64.wrap (mx2 n (0 : Int) + (1 : Int)) ∧ IntKind.i64.wrap (mx2 n (0 : Int) + (1 : Int)) ≤ (16 : Int)) <| .ret (List.drop (mx2 n (0 : Int)).toNat (List.take (IntKind.i64.wrap (mx2 n (0 : Int) + (1 : Int))).toNat [(48 : UInt8), (49 : UInt8), (50 : UInt8), (51 : UInt8), (52 : UInt8), (53 : UInt8), (54 : UInt8), (55 : UInt8), (56 : UInt8), (57 : UInt8), (97 : UInt8), (98 : UInt8), (99 : UInt8), (100 : UInt8), (101 : UInt8), (102 : UInt8)])))
 (.chk (base ≠ (0 : Int)) <| .call (ref1_put_r2.f (IntKind.i64.wrap (n.tdiv base)) base) fun y1 =>
  .chk (base ≠ (0 : Int)) <| .call (ref1_put_r2.f (n.tmod base) base) fun y2 =>
  .chk ((↑(y1.length + y2.length) : Int) ≤ (9223372036854775807 : Int)) <| .ret (y1 ++ y2))
def f (n : Int) (base : Int) : Option (List UInt8) := (t n base).val
def F (x : D.den) : Option (List UInt8) := f x.2.1 x.2.2
def pa : D.den → (List UInt8) → A.den := fun (_, (_, _)) y1 => ((), y1)
def con : Con := tcon D A pa F
theorem ok : ConOk Tryd.prog 25 con := tcon_ok Base.mixed Base.prog_ok bk_ref1_put_r2_ok (by kernel_rfl) LapsOk.nil 9 (fun _ => rfl) (fun x => t x.2.1 x.2.2) (fun _ => rfl) fun _ _ _ => (by kernel_rfl)
end ref1_put_r3
def bk_ref1_put_r3 : Book := bk_ref1_put_r2.add 25 ref1_put_r3.con
theorem bk_ref1_put_r3_ok : BookOk Tryd.prog bk_ref1_put_r3 := bk_ref1_put_r2_ok.add ref1_put_r3.ok
namespace ref1_Put
def D : Dom := ⟨[], (.int .i64)⟩
def A : Dom := ⟨[], .str⟩
def sel : List Nat := [0]
def t (n : Int) : Tr (List UInt8) :=
 .call (ref1_put_r3.f n (10 : Int)) fun y1 =>
 .ret y1
def f (n : Int) : Option (List UInt8) := (t n).val
def F (x : D.den) : Option (List UInt8) := f x.2
def pa : D.den → (List UInt8) → A.den := fun (_, _) y1 => ((), y1)
def con : Con := tcon D A pa F
theorem ok : ConOk Tryd.prog 16 con := tcon_ok Base.mixed Base.prog_ok bk_ref1_put_r3_ok (by kernel_rfl) LapsOk.nil 9 (fun _ => rfl) (fun x => t x.2) (fun _ => rfl) fun _ _ _ => (by kernel_rfl)
end ref1_Put
def bk_ref1_Put : Book := bk_ref1_put_r3.add 16 ref1_Put.con
theorem bk_ref1_Put_ok : BookOk Tryd.prog bk_ref1_Put := bk_ref1_put_r3_ok.add ref1_Put.ok
namespace ref22_small
def D : Dom := ⟨[], (.cat .str (.int .i64))⟩
def A : Dom := ⟨[], (.tup (.cat (.int .i64) .bool))⟩
def sel : List Nat := [0, 1]
def t (s : List UInt8) (most : Int) : Tr (Int × Bool) :=
 .call (ref1_Dec.f s most) fun (y1a, y1b) =>
 .br (y1b == (0 : Int)) (.call (ref1_Put.f y1a) fun y2 =>
  .ret (y1a, y2 == s))
 (.ret (y1a, false))
def f (s : List UInt8) (most : Int) : Option (Int × Bool) := (t s most).val
def F (x : D.den) : Option (Int × Bool) := f x.2.1 x.2.2
def pa : D.den → (Int × Bool) → A.den := fun (_, (_, _)) (y1, y2) => ((), (y1, y2))
def con : Con := tcon D A pa F
theorem ok : ConOk Tryd.prog 20 con := tcon_ok Base.mixed Base.prog_ok bk_ref1_Put_ok (by kernel_rfl) LapsOk.nil 9 (fun _ => rfl) (fun x => t x.2.1 x.2.2) (fun _ => rfl) fun _ _ _ => (by kernel_rfl)
end ref22_small
def bk_ref22_small : Book := bk_ref1_Put.add 20 ref22_small.con
theorem bk_ref22_small_ok : BookOk Tryd.prog bk_ref22_small := bk_ref1_Put_ok.add ref22_small.ok
namespace ref22_IP
def D : Dom := ⟨[], .str⟩
namespace L4
def D : Dom := ⟨[.vec .str 9 false], (.cat (.sl 0 1) (.cat (.int .u32) (.int .i64)))⟩
def A : Dom := ⟨[], (.int .u32)⟩
def B : Dom := ⟨[], (.cat (.int .u32) .bool)⟩
def sel : List Nat := [0, 1, 2]
def t (l : List (List UInt8)) (ip : Int) (i : Int) : Tr ((Int × Int) ⊕ ((Int) ⊕ (Int × Bool))) :=
 .br (decide (i < (↑l.length : Int))) (.chk ((0 : Int) ≤ i ∧ i < (↑l.length : Int)) <| .chk ((0 : Nat) + i.toNat < l.length) <| .call (ref22_small.f (l.getD ((0 : Nat) + i.toNat) []) (255 : Int)) fun (y1a, y1b) =>
  .br (!y1b) (.ret (.inr (.inr ((0 : Int), false))))
  (.br ((↑l.length : Int) != (4 : Int)) (.ret (.inr (.inr ((0 : Int), false))))
  (.okl l.length <| .ret (.inl (IntKind.u32.wrap (↑(BitVec.ofInt IntKind.u32.bits (IntKind.u32.wrap (ip * (2 : Int) ^ (8 : Nat))) ||| BitVec.ofInt IntKind.u32.bits (IntKind.u32.wrap y1a)).toNat : Int), IntKind.i64.wrap (i + (1 : Int)))))))
 (.ret (.inr (.inl ip)))
def f (l : List (List UInt8)) (ip : Int) (i : Int) : Option ((Int) ⊕ (Int × Bool)) := Loop (fun z : Int × Int => t l z.1 z.2) (ip, i)
def F (x : D.den) : Option ((Int) ⊕ (Int × Bool)) := f x.1.1 x.2.2.1 x.2.2.2
def pa : D.den → (Int) → A.den := fun ((_, _), (_, (_, _))) y1 => ((), y1)
def pb : D.den → (Int × Bool) → B.den := fun ((_, _), (_, (_, _))) (y1, y2) => ((), (y1, y2))
def lap : Lap := tlap2 4 38 [4, 5, 6] D (.exit 0) [5] A .ret [2, 3] B pa pb F
def pk (x : D.den) (z : Int × Int) : D.den := ((x.1.1, ()), ((), (z.1, z.2)))
def un (x : D.den) : Int × Int := (x.2.2.1, x.2.2.2)
def body (x : D.den) (z : Int × Int) : Tr ((Int × Int) ⊕ ((Int) ⊕ (Int × Bool))) := t x.1.1 z.1 z.2
theorem ok : LapOk Tryd.prog 0 (codeOf Tryd.prog 10) lap := tlap2_ok Base.mixed Base.prog_ok bk_ref22_small_ok (by kernel_rfl) (by kernel_rfl) LapsOk.nil 9 pk un body (fun _ _ => rfl) (fun _ _ => rfl) (fun _ _ => rfl) (fun _ _ => rfl) (fun _ => rfl) fun _ _ _ _ => (by kernel_rfl)
end L4
def A : Dom := ⟨[], (.tup (.cat (.int .u32) .bool))⟩
def sel : List Nat := [0]
def t (s : List UInt8) : Tr (Int × Bool) :=
 .call (ref1_Split.f s (46 : Int)) fun y1 =>
 .okl y1.length <| .both (ref22_IP.L4.f y1 (0 : Int) (0 : Int)) (fun y2 => .ret (y2, true))
 (fun (y3a, y3b) => .ret (y3a, y3b))
def f (s : List UInt8) : Option (Int × Bool) := (t s).val
def F (x : D.den) : Option (Int × Bool) := f x.2
def pa : D.den → (Int × Bool) → A.den := fun (_, _) (y1, y2) => ((), (y1, y2))
def con : Con := tcon D A pa F
theorem ok : ConOk Tryd.prog 10 con := tcon_ok Base.mixed Base.prog_ok bk_ref22_small_ok (by kernel_rfl) (.cons L4.ok (by kernel_rfl) (.nil)) 9 (fun _ => rfl) (fun x => t x.2) (fun _ => rfl) fun _ _ _ => (by kernel_rfl)
end ref22_IP
def bk_ref22_IP : Book := bk_ref22_small.add 10 ref22_IP.con
theorem bk_ref22_IP_ok : BookOk Tryd.prog bk_ref22_IP := bk_ref22_small_ok.add ref22_IP.ok
namespace internal_stringslite_Index_sx2f
def D : Dom := ⟨[], (.cat .str (.lit (.str false [47])))⟩
def A : Dom := ⟨[], (.int .i64)⟩
def sel : List Nat := [0]
def t (s : List UInt8) : Tr (Int) :=
 .br ([(47 : UInt8)] == s) (.ret (0 : Int))
 (.call (slite_IndexByte.f s (47 : Int)) fun y1 =>
  .ret y1)
def f (s : List UInt8) : Option (Int) := (t s).val
def F (x : D.den) : Option (Int) := f x.2.1
def pa : D.den → (Int) → A.den := fun (_, (_, _)) y1 => ((), y1)
def con : Con := tcon D A pa F
theorem ok : ConOk Tryd.prog 39 con := tcon_ok Base.mixed Base.prog_ok bk_ref22_IP_ok (by kernel_rfl) LapsOk.nil 9 (fun _ => rfl) (fun x => t x.2.1) (fun _ => rfl) fun _ _ _ => (by kernel_rfl)
end internal_stringslite_Index_sx2f
def bk_internal_stringslite_Index_sx2f : Book := bk_ref22_IP.addS 39 (fun a => isStr 1 [47] a) internal_stringslite_Index_sx2f.con
theorem bk_internal_stringslite_Index_sx2f_ok : BookOk Tryd.prog bk_internal_stringslite_Index_sx2f := bk_ref22_IP_ok.addS internal_stringslite_Index_sx2f.ok
namespace internal_stringslite_Cut_sx2f
def D : Dom := ⟨[], (.cat .str (.lit (.str false [47])))⟩
def A : Dom := ⟨[], (.tup (.cat .str (.cat .str .bool)))⟩
def sel : List Nat := [0]
def t (s : List UInt8) : Tr (List UInt8 × List UInt8 × Bool) :=
 .call (internal_stringslite_Index_sx2f.f s) fun y1 =>
 .br (decide (y1 ≥ (0 : Int))) (.chk ((0 : Int) ≤ (0 : Int) ∧ (0 : Int) ≤ y1 ∧ y1 ≤ (↑s.length : Int)) <| .chk ((0 : Int) ≤ IntKind.i64.wrap (y1 + (1 : Int)) ∧ IntKind.i64.wrap (y1 + (1 : Int)) ≤ (↑s.length : Int) ∧ (↑s.length : Int) ≤ (↑s.length : Int)) <| .ret (List.drop (↑(0 : Nat) : Int).toNat (List.take y1.toNat s), List.drop (IntKind.i64.wrap (y1 + (1 : Int))).toNat (List.take (↑s.length : Int).toNat s), true))
 (.ret (s, [], false))
def f (s : List UInt8) : Option (List UInt8 × List UInt8 × Bool) := (t s).val
def F (x : D.den) : Option (List UInt8 × List UInt8 × Bool) := f x.2.1
def pa : D.den → (List UInt8 × List UInt8 × Bool) → A.den := fun (_, (_, _)) (y1, y2, y3) => ((), (y1, (y2, y3)))
def con : Con := tcon D A pa F
theorem ok : ConOk Tryd.prog 29 con := tcon_ok Base.mixed Base.prog_ok bk_internal_stringslite_Index_sx2f_ok (by kernel_rfl) LapsOk.nil 9 (fun _ => rfl) (fun x => t x.2.1) (fun _ => rfl) fun _ _ _ => (by kernel_rfl)
end internal_stringslite_Cut_sx2f
def bk_internal_stringslite_Cut_sx2f : Book := bk_internal_stringslite_Index_sx2f.addS 29 (fun a => isStr 1 [47] a) internal_stringslite_Cut_sx2f.con
theorem bk_internal_stringslite_Cut_sx2f_ok : BookOk Tryd.prog bk_internal_stringslite_Cut_sx2f := bk_internal_stringslite_Index_sx2f_ok.addS internal_stringslite_Cut_sx2f.ok
namespace strings_Cut_sx2f
def D : Dom := ⟨[], (.cat .str (.lit (.str false [47])))⟩
def A : Dom := ⟨[], (.tup (.cat .str (.cat .str .bool)))⟩
def sel : List Nat := [0]
def t (s : List UInt8) : Tr (List UInt8 × List UInt8 × Bool) :=
 .call (internal_stringslite_Cut_sx2f.f s) fun (y1a, y1b, y1c) =>
 .ret (y1a, y1b, y1c)
def f (s : List UInt8) : Option (List UInt8 × List UInt8 × Bool) := (t s).val
def F (x : D.den) : Option (List UInt8 × List UInt8 × Bool) := f x.2.1
def pa : D.den → (List UInt8 × List UInt8 × Bool) → A.den := fun (_, (_, _)) (y1, y2, y3) => ((), (y1, (y2, y3)))
def con : Con := tcon D A pa F
theorem ok : ConOk Tryd.prog 21 con := tcon_ok Base.mixed Base.prog_ok bk_internal_stringslite_Cut_sx2f_ok (by kernel_rfl) LapsOk.nil 9 (fun _ => rfl) (fun x => t x.2.1) (fun _ => rfl) fun _ _ _ => (by kernel_rfl)
end strings_Cut_sx2f
def bk_strings_Cut_sx2f : Book := bk_internal_stringslite_Cut_sx2f.addS 21 (fun a => isStr 1 [47] a) strings_Cut_sx2f.con
theorem bk_strings_Cut_sx2f_ok : BookOk Tryd.prog bk_strings_Cut_sx2f := bk_internal_stringslite_Cut_sx2f_ok.addS strings_Cut_sx2f.ok
namespace net_Net
def D : Dom := ⟨[], .str⟩
def A : Dom := ⟨[], (.tup (.cat (.int .u32) (.cat (.int .i64) .bool)))⟩
def sel : List Nat := [0]
def t (s : List UInt8) : Tr (Int × Int × Bool) :=
 .call (strings_Cut_sx2f.f s) fun (y1a, y1b, _) =>
 .call (net_IP.f y1a) fun (y2a, y2b) =>
 .call (net_short.f y1b (32 : Int)) fun (y3a, y3b) =>
 .br (!y2b) (.ret ((0 : Int), (0 : Int), false))
 (.br (!y3b) (.ret ((0 : Int), (0 : Int), false))
  (.chk (¬y3a < (0 : Int)) <| .br (IntKind.u64.wrap (↑(BitVec.ofInt IntKind.u64.bits (IntKind.u64.wrap (IntKind.u64.wrap y2a * (2 : Int) ^ min y3a.toNat IntKind.u64.bits)) &&& BitVec.ofInt IntKind.u64.bits (4294967295 : Int)).toNat : Int) != (0 : Int)) (.ret ((0 : Int), (0 : Int), false))
  (.ret (y2a, y3a, true))))
def f (s : List UInt8) : Option (Int × Int × Bool) := (t s).val
def F (x : D.den) : Option (Int × Int × Bool) := f x.2
def pa : D.den → (Int × Int × Bool) → A.den := fun (_, _) (y1, y2, y3) => ((), (y1, (y2, y3)))
def con : Con := tcon D A pa F
theorem ok : ConOk Tryd.prog 11 con := tcon_ok Base.mixed Base.prog_ok bk_strings_Cut_sx2f_ok (by kernel_rfl) LapsOk.nil 9 (fun _ => rfl) (fun x => t x.2) (fun _ => rfl) fun _ _ _ => (by kernel_rfl)
end net_Net
def bk_net_Net : Book := bk_strings_Cut_sx2f.add 11 net_Net.con
theorem bk_net_Net_ok : BookOk Tryd.prog bk_net_Net := bk_strings_Cut_sx2f_ok.add net_Net.ok
namespace ref22_mask
def D : Dom := ⟨[], (.int .i64)⟩
def A : Dom := ⟨[], (.int .u32)⟩
def sel : List Nat := [0]
def t (n : Int) : Tr (Int) :=
 .br (n == (0 : Int)) (.ret (0 : Int))
 (.chk (¬IntKind.i64.wrap ((32 : Int) - n) < (0 : Int)) <| .ret (IntKind.u32.wrap ((4294967295 : Int) * (2 : Int) ^ min (IntKind.i64.wrap ((32 : Int) - n)).toNat IntKind.u32.bits)))
def f (n : Int) : Option (Int) := (t n).val
def F (x : D.den) : Option (Int) := f x.2
def pa : D.den → (Int) → A.den := fun (_, _) y1 => ((), y1)
def con : Con := tcon D A pa F
theorem ok : ConOk Tryd.prog 22 con := tcon_ok Base.mixed Base.prog_ok bk_net_Net_ok (by kernel_rfl) LapsOk.nil 9 (fun _ => rfl) (fun x => t x.2) (fun _ => rfl) fun _ _ _ => (by kernel_rfl)
end ref22_mask
def bk_ref22_mask : Book := bk_net_Net.add 22 ref22_mask.con
theorem bk_ref22_mask_ok : BookOk Tryd.prog bk_ref22_mask := bk_net_Net_ok.add ref22_mask.ok
namespace ref22_Net
def D : Dom := ⟨[], .str⟩
def A : Dom := ⟨[], (.tup (.cat (.int .u32) (.cat (.int .i64) .bool)))⟩
def sel : List Nat := [0]
def t (s : List UInt8) : Tr (Int × Int × Bool) :=
 .call (ref1_Split.f s (47 : Int)) fun y1 =>
 .br ((↑y1.length : Int) != (2 : Int)) (.ret ((0 : Int), (0 : Int), false))
 (.chk ((0 : Int) ≤ (0 : Int) ∧ (0 : Int) < (↑y1.length : Int)) <| .chk ((0 : Nat) < y1.length) <| .call (ref22_IP.f (y1.getD (0 : Nat) [])) fun (y2a, y2b) =>
  .chk ((0 : Int) ≤ (1 : Int) ∧ (1 : Int) < (↑y1.length : Int)) <| .chk ((1 : Nat) < y1.length) <| .call (ref22_small.f (y1.getD (1 : Nat) []) (32 : Int)) fun (y3a, y3b) =>
  .br (!y2b) (.ret ((0 : Int), (0 : Int), false))
  (.br (!y3b) (.ret ((0 : Int), (0 : Int), false))
  (.call (ref22_mask.f y3a) fun y4 =>
   .br (IntKind.u32.wrap (↑(BitVec.ofInt IntKind.u32.bits y2a &&& ~~~BitVec.ofInt IntKind.u32.bits y4).toNat : Int) != (0 : Int)) (.ret ((0 : Int), (0 : Int), false))
   (.ret (y2a, y3a, true)))))
def f (s : List UInt8) : Option (Int × Int × Bool) := (t s).val
def F (x : D.den) : Option (Int × Int × Bool) := f x.2
def pa : D.den → (Int × Int × Bool) → A.den := fun (_, _) (y1, y2, y3) => ((), (y1, (y2, y3)))
def con : Con := tcon D A pa F
theorem ok : ConOk Tryd.prog 12 con := tcon_ok Base.mixed Base.prog_ok bk_ref22_mask_ok (by kernel_rfl) LapsOk.nil 9 (fun _ => rfl) (fun x => t x.2) (fun _ => rfl) fun _ _ _ => (by kernel_rfl)
end ref22_Net
def bk_ref22_Net : Book := bk_ref22_mask.add 12 ref22_Net.con
theorem bk_ref22_Net_ok : BookOk Tryd.prog bk_ref22_Net := bk_ref22_mask_ok.add ref22_Net.ok
namespace net_Has
def D : Dom := ⟨[], (.cat .str (.int .u32))⟩
def A : Dom := ⟨[], .bool⟩
def sel : List Nat := [0, 1]
def t (s : List UInt8) (ip : Int) : Tr (Bool) :=
 .call (net_Net.f s) fun (y1a, y1b, y1c) =>
 .br y1c (.chk (¬IntKind.i64.wrap ((32 : Int) - y1b) < (0 : Int)) <| .ret ((IntKind.u64.wrap (IntKind.u32.wrap (↑(BitVec.ofInt IntKind.u32.bits y1a ^^^ BitVec.ofInt IntKind.u32.bits ip).toNat : Int))).fdiv ((2 : Int) ^ min (IntKind.i64.wrap ((32 : Int) - y1b)).toNat IntKind.u64.bits) == (0 : Int)))
 (.ret false)
def f (s : List UInt8) (ip : Int) : Option (Bool) := (t s ip).val
def F (x : D.den) : Option (Bool) := f x.2.1 x.2.2
def pa : D.den → (Bool) → A.den := fun (_, (_, _)) y1 => ((), y1)
def con : Con := tcon D A pa F
theorem ok : ConOk Tryd.prog 13 con := tcon_ok Base.mixed Base.prog_ok bk_ref22_Net_ok (by kernel_rfl) LapsOk.nil 9 (fun _ => rfl) (fun x => t x.2.1 x.2.2) (fun _ => rfl) fun _ _ _ => (by kernel_rfl)
end net_Has
def bk_net_Has : Book := bk_ref22_Net.add 13 net_Has.con
theorem bk_net_Has_ok : BookOk Tryd.prog bk_net_Has := bk_ref22_Net_ok.add net_Has.ok
namespace ref22_Has
def D : Dom := ⟨[], (.cat .str (.int .u32))⟩
def A : Dom := ⟨[], .bool⟩
def sel : List Nat := [0, 1]
def t (s : List UInt8) (ip : Int) : Tr (Bool) :=
 .call (ref22_Net.f s) fun (y1a, y1b, y1c) =>
 .br y1c (.call (ref22_mask.f y1b) fun y2 =>
  .ret (IntKind.u32.wrap (↑(BitVec.ofInt IntKind.u32.bits ip &&& BitVec.ofInt IntKind.u32.bits y2).toNat : Int) == y1a))
 (.ret false)
def f (s : List UInt8) (ip : Int) : Option (Bool) := (t s ip).val
def F (x : D.den) : Option (Bool) := f x.2.1 x.2.2
def pa : D.den → (Bool) → A.den := fun (_, (_, _)) y1 => ((), y1)
def con : Con := tcon D A pa F
theorem ok : ConOk Tryd.prog 14 con := tcon_ok Base.mixed Base.prog_ok bk_net_Has_ok (by kernel_rfl) LapsOk.nil 9 (fun _ => rfl) (fun x => t x.2.1 x.2.2) (fun _ => rfl) fun _ _ _ => (by kernel_rfl)
end ref22_Has
def bk_ref22_Has : Book := bk_net_Has.add 14 ref22_Has.con
theorem bk_ref22_Has_ok : BookOk Tryd.prog bk_ref22_Has := bk_net_Has_ok.add ref22_Has.ok
namespace net_Text
def D : Dom := ⟨[], (.int .u32)⟩
namespace L3
def D : Dom := ⟨[.vec .str 9 false], (.cat (.int .u32) (.cat (.sl 0 1) (.int .i64)))⟩
def A : Dom := ⟨[.vec .str 9 false], (.sl 0 1)⟩
def sel : List Nat := [0, 1, 2]
def t (l : List (List UInt8)) (ip : Int) (t5 : Int) : Tr ((List (List UInt8) × Int) ⊕ (List (List UInt8))) :=
 .br (decide (t5 < (4 : Int))) (.chk (¬IntKind.i64.wrap ((8 : Int) * IntKind.i64.wrap ((3 : Int) - t5)) < (0 : Int)) <| .call (number_Put.f (IntKind.i64.wrap (IntKind.u32.wrap (↑(BitVec.ofInt IntKind.u32.bits (ip.fdiv ((2 : Int) ^ min (IntKind.i64.wrap ((8 : Int) * IntKind.i64.wrap ((3 : Int) - t5))).toNat IntKind.u32.bits)) &&& BitVec.ofInt IntKind.u32.bits (255 : Int)).toNat : Int)))) fun y1 =>
  .chk ((0 : Nat) + l.length ≤ l.length) <| .chk ((l.length + (1 : Nat)) * (16 : Nat) ≤ (140737488355328 : Nat)) <| .chk ((0 : Nat) = (0 : Nat) ∧ l.length + (1 : Nat) = (List.take l.length (List.drop (0 : Nat) l) ++ [y1]).length) <| .ret (.inl (List.take l.length (List.drop (0 : Nat) l) ++ [y1], IntKind.i64.wrap (t5 + (1 : Int)))))
 (.okl l.length <| .ret (.inr l))
def f (l : List (List UInt8)) (ip : Int) (t5 : Int) : Option (List (List UInt8)) := Loop (fun z : List (List UInt8) × Int => t z.1 ip z.2) (l, t5)
def F (x : D.den) : Option (List (List UInt8)) := f x.1.1 x.2.1 x.2.2.2
def pa : D.den → (List (List UInt8)) → A.den := fun ((_, _), (_, (_, _))) y1 => ((y1, ()), ())
def lap : Lap := tlap 3 22 [0, 3, 5] D (.exit 0) [3] A pa F
def pk (x : D.den) (z : List (List UInt8) × Int) : D.den := ((z.1, ()), (x.2.1, ((), z.2)))
def un (x : D.den) : List (List UInt8) × Int := (x.1.1, x.2.2.2)
def body (x : D.den) (z : List (List UInt8) × Int) : Tr ((List (List UInt8) × Int) ⊕ (List (List UInt8))) := t z.1 x.2.1 z.2
theorem ok : LapOk Tryd.prog 0 (codeOf Tryd.prog 15) lap := tlap_ok Base.mixed Base.prog_ok bk_ref22_Has_ok (by kernel_rfl) (by kernel_rfl) LapsOk.nil 9 pk un body (fun _ _ => rfl) (fun _ _ => rfl) (fun _ _ => rfl) (fun _ => rfl) fun _ _ _ _ => (by kernel_rfl)
end L3
def A : Dom := ⟨[], .str⟩
def sel : List Nat := [0]
def t (ip : Int) : Tr (List UInt8) :=
 .call (net_Text.L3.f [] ip (0 : Int)) fun y1 =>
 .chk ((0 : Nat) + y1.length ≤ y1.length) <| .call (strings_Join.f (List.take y1.length (List.drop (0 : Nat) y1)) [(46 : UInt8)]) fun y2 =>
 .ret y2
def f (ip : Int) : Option (List UInt8) := (t ip).val
def F (x : D.den) : Option (List UInt8) := f x.2
def pa : D.den → (List UInt8) → A.den := fun (_, _) y1 => ((), y1)
def con : Con := tcon D A pa F
theorem ok : ConOk Tryd.prog 15 con := tcon_ok Base.mixed Base.prog_ok bk_ref22_Has_ok (by kernel_rfl) (.cons L3.ok (by kernel_rfl) (.nil)) 9 (fun _ => rfl) (fun x => t x.2) (fun _ => rfl) fun _ _ _ => (by kernel_rfl)
end net_Text
def bk_net_Text : Book := bk_ref22_Has.add 15 net_Text.con
theorem bk_net_Text_ok : BookOk Tryd.prog bk_net_Text := bk_ref22_Has_ok.add net_Text.ok
namespace ref22_Text
def D : Dom := ⟨[], (.int .u32)⟩
namespace L3
def D : Dom := ⟨[], (.cat (.int .u32) (.cat .str (.int .i64)))⟩
def A : Dom := ⟨[], .str⟩
def sel : List Nat := [0, 1, 2]
def t (ip : Int) (s : List UInt8) (i : Int) : Tr ((List UInt8 × Int) ⊕ (List UInt8)) :=
 .br (decide (i ≥ (0 : Int))) (.chk (¬IntKind.i64.wrap ((8 : Int) * i) < (0 : Int)) <| .call (ref1_Put.f (IntKind.i64.wrap (IntKind.u32.wrap (↑(BitVec.ofInt IntKind.u32.bits (ip.fdiv ((2 : Int) ^ min (IntKind.i64.wrap ((8 : Int) * i)).toNat IntKind.u32.bits)) &&& BitVec.ofInt IntKind.u32.bits (255 : Int)).toNat : Int)))) fun y1 =>
  .chk ((↑(s.length + y1.length) : Int) ≤ (9223372036854775807 : Int)) <| .br (decide (i > (0 : Int))) (.chk ((↑((s ++ y1).length + [(46 : UInt8)].length) : Int) ≤ (9223372036854775807 : Int)) <| .ret (.inl (s ++ y1 ++ [(46 : UInt8)], IntKind.i64.wrap (i - (1 : Int)))))
  (.ret (.inl (s ++ y1, IntKind.i64.wrap (i - (1 : Int))))))
 (.ret (.inr s))
def f (ip : Int) (s : List UInt8) (i : Int) : Option (List UInt8) := Loop (fun z : List UInt8 × Int => t ip z.1 z.2) (s, i)
def F (x : D.den) : Option (List UInt8) := f x.2.1 x.2.2.1 x.2.2.2
def pa : D.den → (List UInt8) → A.den := fun (_, (_, (_, _))) y1 => ((), y1)
def lap : Lap := tlap 3 23 [0, 3, 4] D (.exit 0) [3] A pa F
def pk (x : D.den) (z : List UInt8 × Int) : D.den := ((), (x.2.1, (z.1, z.2)))
def un (x : D.den) : List UInt8 × Int := (x.2.2.1, x.2.2.2)
def body (x : D.den) (z : List UInt8 × Int) : Tr ((List UInt8 × Int) ⊕ (List UInt8)) := t x.2.1 z.1 z.2
theorem ok : LapOk Tryd.prog 0 (codeOf Tryd.prog 7) lap := tlap_ok Base.mixed Base.prog_ok bk_net_Text_ok (by kernel_rfl) (by kernel_rfl) LapsOk.nil 9 pk un body (fun _ _ => rfl) (fun _ _ => rfl) (fun _ _ => rfl) (fun _ => rfl) fun _ _ _ _ => (by kernel_rfl)
end L3
def A : Dom := ⟨[], .str⟩
def sel : List Nat := [0]
def t (ip : Int) : Tr (List UInt8) :=
 .call (ref22_Text.L3.f ip [] (3 : Int)) fun y1 =>
 .ret y1
def f (ip : Int) : Option (List UInt8) := (t ip).val
def F (x : D.den) : Option (List UInt8) := f x.2
def pa : D.den → (List UInt8) → A.den := fun (_, _) y1 => ((), y1)
def con : Con := tcon D A pa F
theorem ok : ConOk Tryd.prog 7 con := tcon_ok Base.mixed Base.prog_ok bk_net_Text_ok (by kernel_rfl) (.cons L3.ok (by kernel_rfl) (.nil)) 9 (fun _ => rfl) (fun x => t x.2) (fun _ => rfl) fun _ _ _ => (by kernel_rfl)
end ref22_Text
def bk_ref22_Text : Book := bk_net_Text.add 7 ref22_Text.con
theorem bk_ref22_Text_ok : BookOk Tryd.prog bk_ref22_Text := bk_net_Text_ok.add ref22_Text.ok
namespace law23_some
def D : Dom := ⟨[.vec .byte 5 true], (.sl 0 1)⟩
namespace L4
def D : Dom := ⟨[.vec .byte 5 true, .vec .str 9 false], (.cat (.sl 0 1) (.cat (.sl 1 1) (.cat .str (.int .i64))))⟩
def A : Dom := ⟨[.vec .byte 5 true], .str⟩
def sel : List Nat := [0, 1, 2, 3]
def t (l : List UInt8) (p : List (List UInt8)) (s : List UInt8) (i : Int) : Tr ((List UInt8 × Int) ⊕ (List UInt8)) :=
 .br (decide (i < (↑l.length : Int))) (.chk ((0 : Int) ≤ i ∧ i < (↑l.length : Int)) <| .chk ((0 : Nat) + i.toNat < l.length) <| .chk ((↑p.length : Int) ≠ (0 : Int)) <| .chk ((0 : Int) ≤ (IntKind.i64.wrap (↑(UInt8.toNat (l.getD ((0 : Nat) + i.toNat) (0 : UInt8))) : Int)).tmod (↑p.length : Int) ∧ (IntKind.i64.wrap (↑(UInt8.toNat (l.getD ((0 : Nat) + i.toNat) (0 : UInt8))) : Int)).tmod (↑p.length : Int) < (↑p.length : Int)) <| .chk ((0 : Nat) + ((IntKind.i64.wrap (↑(UInt8.toNat (l.getD ((0 : Nat) + i.toNat) (0 : UInt8))) : Int)).tmod (↑p.length : Int)).toNat < p.length) <| .chk ((↑(s.length + List.length (p.getD ((0 : Nat) + ((IntKind.i64.wrap (↑(UInt8.toNat (l.getD ((0 : Nat) + i.toNat) (0 : UInt8))) : Int)).tmod (↑p.length : Int)).toNat) [])) : Int) ≤ (9223372036854775807 : Int)) <| .okl l.length <| .okl p.length <| .ret (.inl (s ++ p.getD ((0 : Nat) + ((IntKind.i64.wrap (↑(UInt8.toNat (l.getD ((0 : Nat) + i.toNat) (0 : UInt8))) : Int)).tmod (↑p.length : Int)).toNat) [], IntKind.i64.wrap (i + (1 : Int)))))
 (.ret (.inr s))
def f (l : List UInt8) (p : List (List UInt8)) (s : List UInt8) (i : Int) : Option (List UInt8) := Loop (fun z : List UInt8 × Int => t l p z.1 z.2) (s, i)
def F (x : D.den) : Option (List UInt8) := f x.1.1 x.1.2.1 x.2.2.2.1 x.2.2.2.2
def pa : D.den → (List UInt8) → A.den := fun ((l, (_, _)), (_, (_, (_, _)))) y1 => ((l, ()), y1)
def lap : Lap := tlap 4 27 [0, 3, 4, 5] D (.exit 0) [4] A pa F
def pk (x : D.den) (z : List UInt8 × Int) : D.den := ((x.1.1, (x.1.2.1, ())), ((), ((), (z.1, z.2))))
def un (x : D.den) : List UInt8 × Int := (x.2.2.2.1, x.2.2.2.2)
def body (x : D.den) (z : List UInt8 × Int) : Tr ((List UInt8 × Int) ⊕ (List UInt8)) := t x.1.1 x.1.2.1 z.1 z.2
theorem ok : LapOk Tryd.prog 1 (codeOf Tryd.prog 8) lap := tlap_ok Base.mixed Base.prog_ok bk_ref22_Text_ok (by kernel_rfl) (by kernel_rfl) LapsOk.nil 9 pk un body (fun _ _ => rfl) (fun _ _ => rfl) (fun _ _ => rfl) (fun _ => rfl) fun _ _ _ _ => (by kernel_rfl)
end L4
def A : Dom := ⟨[.vec .byte 5 true], .str⟩
def sel : List Nat := [0]
def t (l : List UInt8) : Tr (List UInt8) :=
 .okl l.length <| .call (law23_some.L4.f l [[(49 : UInt8), (48 : UInt8)], [(46 : UInt8)], [(48 : UInt8)], [(50 : UInt8), (53 : UInt8), (53 : UInt8)], [(50 : UInt8), (53 : UInt8), (54 : UInt8)], [(47 : UInt8)], [(56 : UInt8)], [(51 : UInt8), (50 : UInt8)], [(51 : UInt8), (51 : UInt8)], [(49 : UInt8)], [(48 : UInt8), (48 : UInt8)], [(45 : UInt8)], [(32 : UInt8)]] [] (0 : Int)) fun y1 =>
 .ret y1
def f (l : List UInt8) : Option (List UInt8) := (t l).val
def F (x : D.den) : Option (List UInt8) := f x.1.1
def pa : D.den → (List UInt8) → A.den := fun ((l, _), _) y1 => ((l, ()), y1)
def con : Con := tcon D A pa F
theorem ok : ConOk Tryd.prog 8 con := tcon_ok Base.mixed Base.prog_ok bk_ref22_Text_ok (by kernel_rfl) (.cons L4.ok (by kernel_rfl) (.nil)) 9 (fun _ => rfl) (fun x => t x.1.1) (fun _ => rfl) fun _ _ _ => (by kernel_rfl)
end law23_some
def bk_law23_some : Book := bk_ref22_Text.add 8 law23_some.con
theorem bk_law23_some_ok : BookOk Tryd.prog bk_law23_some := bk_ref22_Text_ok.add law23_some.ok
end Go.Vx
end
section
set_option linter.unusedVariables false
set_option linter.unusedSimpArgs false
namespace Go.Vx
theorem w64 {n : Int} (h0 : -9223372036854775808 ≤ n) (h1 : n < 9223372036854775808) : IntKind.i64.wrap n = n := by
 simp only [IntKind.wrap, IntKind.signed, IntKind.bits, if_true]
 simp
 omega
theorem w32 {n : Int} (h0 : 0 ≤ n) (h1 : n < 4294967296) : IntKind.u32.wrap n = n := by
 simp only [IntKind.wrap, IntKind.signed, IntKind.bits]
 simp
 omega
theorem wS {k : Nat} (h : k < 4611686018427387904) : IntKind.i64.wrap ((k : Int) + 1) = ((k + 1 : Nat) : Int) := by rw [w64 (by omega) (by omega)]; omega
theorem byte_is (c d : UInt8) : ((c.toNat : Int) == (d.toNat : Int)) = (c == d) := by
 by_cases h : c = d
 ·subst h; simp
 ·have : ¬ c.toNat = d.toNat := fun e => h (UInt8.toNat_inj.1 e)
  have h1 : (c == d) = false := by simpa using h
  rw [h1]
  exact beq_false_of_ne (by omega)
theorem in_rng {k n : Nat} (h : k < n) : (0 : Int) ≤ (k : Int) ∧ (k : Int) < (n : Int) := by omega
theorem Tr.val_chk {α : Type} {p : Prop} [Decidable p] {a : Tr α} (h : p) : (Tr.chk p a).val = a.val := if_pos h
theorem Tr.val_call {α β : Type} {o : Option β} {k : β → Tr α} {y : β} (h : o = some y) : (Tr.call o k).val = (k y).val := by subst h; rfl
theorem Tr.val_inl {α β γ : Type} {o : Option (β ⊕ γ)} {k : β → Tr α} {l : γ → Tr α} {y : β} (h : o = some (.inl y)) : (Tr.both o k l).val = (k y).val := by subst h; rfl
def foldE {α A ρ : Type} (step : A → α → A ⊕ ρ) (fin : A → ρ) : A → List α → ρ
 | a, [] => fin a
 | a, c :: l => match step a c with
  | .inl a' => foldE step fin a' l
  | .inr r => r
theorem iter_list {α A σ ρ : Type} {body : σ → Tr (σ ⊕ ρ)} (s : List α) (st : Nat → A → σ) (inv : Nat → A → Prop) (step : A → α → A ⊕ ρ) (fin : A → ρ)
  (hs : ∀ (k : Nat) (a : A) (c : α), inv k a → (hk : k < s.length) → s[k]'hk = c → (body (st k a)).val = some (match step a c with
   | .inl a' => .inl (st (k + 1) a')
   | .inr r => .inr r) ∧ ∀ a', step a c = .inl a' → inv (k + 1) a')
  (he : ∀ a, inv s.length a → (body (st s.length a)).val = some (.inr (fin a))) :
  ∀ (n k : Nat) (a : A), inv k a → k ≤ s.length → s.length - k < n → iter body n (st k a) = some (foldE step fin a (s.drop k)) := by
 intro n
 induction n with
 | zero => intro k a _ _ h; omega
 | succ n ih =>
  intro k a hi hk hn
  rw [iter]
  by_cases hl : k < s.length
  ·obtain ⟨h1, h2⟩ := hs k a _ hi hl rfl
   rw [h1, List.drop_eq_getElem_cons hl, foldE]
   cases e : step a s[k] with
   | inr r => rfl
   | inl a' => exact ih (k + 1) a' (h2 a' e) (by omega) (by omega)
  ·have hkl : k = s.length := by omega
   subst hkl
   rw [he a hi, List.drop_length, foldE]
theorem Loop_list {α A σ ρ : Type} {body : σ → Tr (σ ⊕ ρ)} (s : List α) (st : Nat → A → σ) (inv : Nat → A → Prop) (step : A → α → A ⊕ ρ) (fin : A → ρ)
  (hs : ∀ (k : Nat) (a : A) (c : α), inv k a → (hk : k < s.length) → s[k]'hk = c → (body (st k a)).val = some (match step a c with
   | .inl a' => .inl (st (k + 1) a')
   | .inr r => .inr r) ∧ ∀ a', step a c = .inl a' → inv (k + 1) a')
  (he : ∀ a, inv s.length a → (body (st s.length a)).val = some (.inr (fin a))) (hn : s.length < 1125899906842624) {a : A} (hi : inv 0 a) {s0 : σ} (h0 : s0 = st 0 a) : Loop body s0 = some (foldE step fin a s) := by
 subst h0
 have := iter_list s st inv step fin hs he rounds 0 a hi (Nat.zero_le _) (by unfold rounds; omega)
 rw [List.drop_zero] at this
 exact this
theorem getD_nat {α : Type} {s : List α} {k : Nat} {c : α} {d : α} (hk : k < s.length) (hc : s[k]'hk = c) : s.getD k d = c := by
 rw [List.getD_eq_getElem?_getD, List.getElem?_eq_getElem hk, hc]; rfl
theorem getD_at {α : Type} {s : List α} {k : Nat} {c : α} {d : α} (hk : k < s.length) (hc : s[k]'hk = c) : s.getD (k : Int).toNat d = c := by
 rw [Int.toNat_natCast, List.getD_eq_getElem?_getD, List.getElem?_eq_getElem hk, hc]; rfl
end Go.Vx
end
section
set_option linter.unusedVariables false
set_option linter.unusedSimpArgs false
set_option maxRecDepth 100000
namespace Go.Vx
namespace Pl
theorem all256 {p : UInt8 → Bool} (h : ((List.range 256).all fun n => p (UInt8.ofNat n)) = true) (c : UInt8) : p c = true := by
 have := List.all_eq_true.1 h c.toNat (List.mem_range.2 (UInt8.toNat_lt c))
 simpa using this
theorem byte_fn {α : Type} [DecidableEq α] {f : Int → Option α} {g : UInt8 → α} (h : ((List.range 256).all fun n => decide (f (((UInt8.ofNat n).toNat : Nat) : Int) = some (g (UInt8.ofNat n)))) = true) (c : UInt8) : f (c.toNat : Int) = some (g c) :=
 of_decide_eq_true (all256 (p := fun c => decide (f (c.toNat : Int) = some (g c))) h c)
def isLetter (c : UInt8) : Bool := (decide (97 ≤ c) && decide (c ≤ 122)) || (decide (65 ≤ c) && decide (c ≤ 90))
def isDigit (c : UInt8) : Bool := decide (48 ≤ c) && decide (c ≤ 57)
def isTok (c : UInt8) : Bool := isLetter c || isDigit c || [33, 35, 36, 37, 38, 39, 42, 43, 45, 46, 94, 95, 96, 124, 126].contains c
def isVis (c : UInt8) : Bool := decide (33 ≤ c) && decide (c ≤ 126)
def isBlank (c : UInt8) : Bool := c == 32 || c == 9
def isText (c : UInt8) : Bool := isVis c || isBlank c || decide (128 ≤ c)
def isHex (c : UInt8) : Bool := isDigit c || (decide (97 ≤ c) && decide (c ≤ 102)) || (decide (65 ≤ c) && decide (c ≤ 70))
def hexv (c : UInt8) : Nat := if isDigit c then c.toNat - 48 else if decide (97 ≤ c) && decide (c ≤ 102) then c.toNat - 87 else if decide (65 ≤ c) && decide (c ≤ 70) then c.toNat - 55 else 0
def lowerC (c : UInt8) : UInt8 := if decide (65 ≤ c) && decide (c ≤ 90) then c + 32 else c
def isKind (k : Int) (c : UInt8) : Bool := if k = 1 then isTok c else if k = 2 then isVis c else if k = 3 then isBlank c else if k = 4 then isDigit c else if k = 5 then isHex c else if k = 6 then isText c else false
def scan {α ρ : Type} (step : Nat → α → Option ρ) (fin : ρ) : Nat → List α → ρ
 | _, [] => fin
 | k, c :: l => match step k c with
  | none => scan step fin (k + 1) l
  | some r => r
theorem scan_foldE {α ρ : Type} (step : Nat → α → Option ρ) (fin : ρ) : ∀ (l : List α) (k : Nat), foldE (fun (a : Nat) c => match step a c with
  | none => .inl (a + 1)
  | some r => .inr r) (fun _ => fin) k l = scan step fin k l
 | [], _ => rfl
 | c :: l, k => by
  rw [foldE, scan]
  cases step k c with
  | none => exact scan_foldE step fin l (k + 1)
  | some r => rfl
theorem Loop_scan {α ρ : Type} {body : Int → Tr (Int ⊕ ρ)} (s : List α) (step : Nat → α → Option ρ) (fin : ρ)
  (hs : ∀ (k : Nat) (c : α), (hk : k < s.length) → s[k]'hk = c → (body (k : Int)).val = some (match step k c with
   | none => .inl ((k + 1 : Nat) : Int)
   | some r => .inr r)) (he : (body (s.length : Int)).val = some (.inr fin)) (hn : s.length < 1125899906842624) : Loop body 0 = some (scan step fin 0 s) := by
 rw [← scan_foldE]
 refine Loop_list s (fun k _ => (k : Int)) (fun k a => a = k) (fun a c => match step a c with
  | none => .inl (a + 1)
  | some r => .inr r) (fun _ => fin) (fun k a c hi hk hc => ?_) (fun a _ => he) hn rfl rfl
 subst hi
 rw [hs a c hk hc]
 cases step a c with
 | none => exact ⟨rfl, fun a' h => by cases h; rfl⟩
 | some r => exact ⟨rfl, fun a' h => by cases h⟩
theorem scan_all {α : Type} (p : α → Bool) : ∀ (l : List α) (k : Nat), scan (fun _ c => if p c = true then none else some (Sum.inr false : Unit ⊕ Bool)) (.inl ()) k l = if l.all p = true then .inl () else .inr false
 | [], _ => rfl
 | c :: l, k => by
  rw [scan]
  by_cases h : p c = true
  ·simp only [h, if_true, scan_all p l (k + 1), List.all_cons, Bool.true_and]
  ·simp only [h, List.all_cons]; rfl
theorem bif_ite {α : Type} (c : Bool) (a b : α) : (bif c then a else b) = if c = true then a else b := by cases c <;> rfl
theorem lt_nat {k n : Nat} : decide ((k : Int) < (n : Int)) = decide (k < n) := by simp
end Pl
end Go.Vx
end
section
set_option linter.unusedVariables false
set_option linter.unusedSimpArgs false
set_option maxRecDepth 100000
namespace Go.Vx
namespace Pl
open Go
def isDig (base : Nat) (c : UInt8) : Bool := isHex c && decide (hexv c < base)
def valN (base : Nat) (n : Nat) (s : List UInt8) : Nat := s.foldl (fun n c => n * base + hexv c) n
theorem valN_cons (base n : Nat) (c : UInt8) (s : List UInt8) : valN base n (c :: s) = valN base (n * base + hexv c) s := rfl
theorem valN_ge {base : Nat} (hb : 0 < base) : ∀ (s : List UInt8) (n : Nat), n ≤ valN base n s
 | [], n => Nat.le_refl _
 | c :: s, n => by
  rw [valN_cons]
  have := valN_ge hb s (n * base + hexv c)
  have h2 : n * 1 ≤ n * base := Nat.mul_le_mul_left n hb
  omega
def numS (base : Nat) (most : Int) (s : List UInt8) : Int × Int :=
 if s = [] ∨ (s.all (isDig base)) = false then (0, 22) else if (valN base 0 s : Int) ≤ max most 0 then ((valN base 0 s : Nat), 0) else (0, 23)
theorem isDig10 (c : UInt8) : isDig 10 c = isDigit c := by
 have := all256 (p := fun c => isDig 10 c == isDigit c) (by decide +kernel) c
 simpa using this
theorem hexv_lt (c : UInt8) : hexv c < 16 := by
 have := all256 (p := fun c => decide (hexv c < 16)) (by decide +kernel) c
 simpa using this
def lower (s : List UInt8) : List UInt8 := s.map lowerC
def same (a b : List UInt8) : Bool := lower a == lower b
def before (c : UInt8) (s : List UInt8) : List UInt8 := s.takeWhile (· != c)
def after (c : UInt8) (s : List UInt8) : List UInt8 := (s.dropWhile (· != c)).drop 1
def cutC (c : UInt8) (s : List UInt8) : List UInt8 × List UInt8 × Bool := if s.contains c = true then (before c s, after c s, true) else (s, [], false)
def splitC (c : UInt8) : List UInt8 → List (List UInt8)
 | [] => [[]]
 | x :: l => if x == c then [] :: splitC c l else match splitC c l with
  | a :: r => (x :: a) :: r
  | [] => [[x]]
theorem indexByte_not {c : UInt8} : ∀ {s : List UInt8}, s.contains c = false → Lib.indexByte s c = -1
 | [], _ => rfl
 | x :: l, h => by
  simp only [List.contains_cons, Bool.or_eq_false_iff] at h
  have hx : (x == c) = false := by
   have := h.1
   simp only [beq_eq_false_iff_ne] at this ⊢
   exact fun e => this e.symm
  unfold Lib.indexByte
  rw [indexByte_not h.2, hx]
  simp
theorem indexByte_is {c : UInt8} : ∀ {s : List UInt8}, s.contains c = true → Lib.indexByte s c = ((before c s).length : Int)
 | [], h => by simp at h
 | x :: l, h => by
  unfold Lib.indexByte before
  by_cases hx : x = c
  ·subst hx; simp
  ·have h1 : (x == c) = false := by simpa using hx
   have h2 : l.contains c = true := by
    simp only [List.contains_cons, Bool.or_eq_true, beq_iff_eq] at h
    rcases h with h | h
    ·exact absurd h.symm hx
    ·exact h
   have ih := indexByte_is h2
   have h3 : (x != c) = true := by simp [bne, h1]
   rw [h1]
   simp only [List.takeWhile_cons, h3, if_true, List.length_cons]
   rw [ih]
   have h4 : (((before c l).length : Int) == -1) = false := by
    rw [beq_eq_false_iff_ne]; omega
   simp only [h4]
   simp [before]
theorem before_after {c : UInt8} : ∀ {s : List UInt8}, s.contains c = true → s = before c s ++ c :: after c s
 | [], h => by simp at h
 | x :: l, h => by
  unfold before after
  by_cases hx : x = c
  ·subst hx; simp
  ·have h1 : (x != c) = true := by simpa using hx
   have h2 : l.contains c = true := by
    simp only [List.contains_cons, Bool.or_eq_true, beq_iff_eq] at h
    rcases h with h | h
    ·exact absurd h.symm hx
    ·exact h
   have ih := before_after h2
   simp only [List.takeWhile_cons, List.dropWhile_cons, h1, if_true, List.cons_append]
   congr 1
theorem take_before {c : UInt8} {s : List UInt8} (h : s.contains c = true) : s.take (before c s).length = before c s := by
 refine (congrArg (List.take (before c s).length) (before_after h)).trans ?_
 simp
theorem drop_after {c : UInt8} {s : List UInt8} (h : s.contains c = true) : s.drop ((before c s).length + 1) = after c s := by
 refine (congrArg (List.drop ((before c s).length + 1)) (before_after h)).trans ?_
 simp
theorem before_len {c : UInt8} {s : List UInt8} (h : s.contains c = true) : (before c s).length + 1 + (after c s).length = s.length := by
 have := congrArg List.length (before_after h)
 simp at this
 omega
theorem splitC_not {c : UInt8} : ∀ {s : List UInt8}, s.contains c = false → splitC c s = [s]
 | [], _ => rfl
 | x :: l, h => by
  simp only [List.contains_cons, Bool.or_eq_false_iff] at h
  have hx : (x == c) = false := by
   have := h.1
   simp only [beq_eq_false_iff_ne] at this ⊢
   exact fun e => this e.symm
  simp only [splitC, hx, splitC_not h.2]
  rfl
theorem splitC_is {c : UInt8} : ∀ {s : List UInt8}, s.contains c = true → splitC c s = before c s :: splitC c (after c s)
 | [], h => by simp at h
 | x :: l, h => by
  unfold before after
  by_cases hx : x = c
  ·subst hx; simp [splitC]
  ·have h0 : (x == c) = false := by simpa using hx
   have h1 : (x != c) = true := by simpa using hx
   have h2 : l.contains c = true := by
    simp only [List.contains_cons, Bool.or_eq_true, beq_iff_eq] at h
    rcases h with h | h
    ·exact absurd h.symm hx
    ·exact h
   simp only [splitC, h0, splitC_is h2, List.takeWhile_cons, List.dropWhile_cons, h1, if_true]
   rfl
theorem splitC_ne (c : UInt8) (s : List UInt8) : splitC c s ≠ [] := by
 by_cases h : s.contains c = true
 ·rw [splitC_is h]; simp
 ·rw [splitC_not (by simpa using h)]; simp
theorem splitC_len (c : UInt8) : ∀ (n : Nat) (s : List UInt8), s.length ≤ n → (splitC c s).length = s.count c + 1
 | 0, s, h => by
  have : s = [] := List.length_eq_zero_iff.1 (by omega)
  subst this; rfl
 | n + 1, s, h => by
  by_cases hc : s.contains c = true
  ·have hl := before_len hc
   rw [splitC_is hc, List.length_cons, splitC_len c n (after c s) (by omega)]
   have h1 := congrArg (List.count c) (before_after hc)
   rw [List.count_append, List.count_cons_self] at h1
   have : (before c s).count c = 0 := by
    rw [List.count_eq_zero]
    unfold before
    intro hm
    have h2 : ∀ (l : List UInt8), c ∈ l.takeWhile (· != c) → False := by
     intro l
     induction l with
     | nil => intro h; simp at h
     | cons x l ih =>
      intro h
      rw [List.takeWhile_cons] at h
      split at h
      ·rename_i hx
       rcases List.mem_cons.1 h with rfl | h
       ·simp at hx
       ·exact ih h
      ·simp at h
    exact h2 _ hm
   omega
  ·rw [splitC_not (by simpa using hc)]
   have : s.count c = 0 := by
    rw [List.count_eq_zero]
    simpa using hc
   simp [this]
end Pl
end Go.Vx
end
section
set_option linter.unusedVariables false
set_option linter.unusedSimpArgs false
set_option maxRecDepth 100000
namespace Go.Vx
namespace Pl
open Go Go.Proofs
theorem octet_Digit_f (c : UInt8) : octet_Digit.f (c.toNat : Int) = some (isDigit c) := byte_fn (f := octet_Digit.f) (g := fun c => (isDigit c)) (by decide +kernel) c
theorem octet_Token_f (c : UInt8) : octet_Token.f (c.toNat : Int) = some (isTok c) := byte_fn (f := octet_Token.f) (g := fun c => (isTok c)) (by decide +kernel) c
theorem octet_Visible_f (c : UInt8) : octet_Visible.f (c.toNat : Int) = some (isVis c) := byte_fn (f := octet_Visible.f) (g := fun c => (isVis c)) (by decide +kernel) c
theorem octet_Blank_f (c : UInt8) : octet_Blank.f (c.toNat : Int) = some (isBlank c) := byte_fn (f := octet_Blank.f) (g := fun c => (isBlank c)) (by decide +kernel) c
theorem octet_Text_f (c : UInt8) : octet_Text.f (c.toNat : Int) = some (isText c) := byte_fn (f := octet_Text.f) (g := fun c => (isText c)) (by decide +kernel) c
theorem octet_Hex_f (c : UInt8) : octet_Hex.f (c.toNat : Int) = some ((hexv c : Int), isHex c) := byte_fn (f := octet_Hex.f) (g := fun c => ((hexv c : Int), isHex c)) (by decide +kernel) c
theorem octet_of_f (c : UInt8) (k : Int) : octet_of.f (c.toNat : Int) k = some (isKind k c) := by
 unfold octet_of.f octet_of.t isKind
 rw [octet_Token_f, octet_Visible_f, octet_Blank_f, octet_Digit_f, octet_Hex_f, octet_Text_f]
 simp only [Tr.val, bif_ite, beq_iff_eq]
 split <;> (try rfl) <;> split <;> (try rfl) <;> split <;> (try rfl) <;> split <;> (try rfl) <;> split <;> (try rfl) <;> split <;> rfl
theorem octet_All_L6 {kinds : List Int} {s : List UInt8} {i : Nat} {c : UInt8} (hi : i < s.length) (hc : s[i]'hi = c) (hn : kinds.length < 1125899906842624) : octet_All.L6.f kinds s (i : Int) false (kinds.length : Int) 0 = some (kinds.any fun k => isKind k c) := by
 unfold octet_All.L6.f
 refine (Loop_list (A := Bool) (ρ := Bool) (a := false) kinds (fun k a => (a, (k : Int))) (fun _ _ => True) (fun a k => .inl (a || isKind k c)) id ?_ ?_ hn trivial rfl).trans ?_
 ·intro k a kd _ hk hkc
  refine ⟨?_, fun _ _ => trivial⟩
  have hw := wS (k := k) (by omega)
  subst hkc hc
  cases a <;> simp [octet_All.L6.t, Tr.val, octet_of_f, in_rng hk, hw, hk, in_rng hi, hi]
 ·intro a _
  simp [octet_All.L6.t, Tr.val]
 ·congr 1
  have : ∀ (l : List Int) (a : Bool), foldE (fun a k => (Sum.inl (a || isKind k c) : Bool ⊕ Bool)) id a l = (a || l.any fun k => isKind k c) := by
   intro l
   induction l with
   | nil => intro a; simp [foldE]
   | cons k l ih => intro a; simp [foldE, ih, Bool.or_assoc]
  simpa using this kinds false
theorem octet_All_f {kinds : List Int} {s : List UInt8} (hk : kinds.length < 1125899906842624) (hn : s.length < 1125899906842624) : octet_All.f kinds s = some (s.all fun c => kinds.any fun k => isKind k c) := by
 have hL : octet_All.L2.f kinds s (s.length : Int) 0 = some (if (s.all fun c => kinds.any fun k => isKind k c) = true then .inl () else .inr false) := by
  unfold octet_All.L2.f
  refine (Loop_scan s (fun _ c => if (kinds.any fun k => isKind k c) = true then none else some (Sum.inr false : Unit ⊕ Bool)) (.inl ()) (fun k c hl hc => ?_) ?_ hn).trans (by rw [scan_all])
  ·have hw := wS (k := k) (by omega)
   by_cases h : (kinds.any fun k => isKind k c) = true
   ·simp [octet_All.L2.t, Tr.val, octet_All_L6 hl hc hk, h, hw, hl]
   ·have h' : (kinds.any fun k => isKind k c) = false := by simpa using h
    simp [octet_All.L2.t, Tr.val, octet_All_L6 hl hc hk, h', hw, hl]
  ·simp [octet_All.L2.t, Tr.val]
 unfold octet_All.f octet_All.t
 rw [hL]
 cases (s.all fun c => kinds.any fun k => isKind k c) <;> simp [Tr.val]
theorem kind1 (s : List UInt8) (k : Int) : (s.all fun c => [k].any fun k => isKind k c) = s.all (isKind k) := by
 congr 1; funext c; simp
theorem octet_All1 {k : Int} {s : List UInt8} (hn : s.length < 1125899906842624) : octet_All.f [k] s = some (s.all (isKind k)) := by
 rw [octet_All_f (by simp) hn, kind1]
theorem tdiv_gt {m d n base : Nat} (hb : 0 < base) (hd : d ≤ m) : (decide ((n : Int) > ((m : Int) - (d : Int)).tdiv (base : Int))) = decide (m < n * base + d) := by
 have h1 : ((m : Int) - (d : Int)) = ((m - d : Nat) : Int) := by omega
 rw [h1]
 have h2 : ((m - d : Nat) : Int).tdiv (base : Int) = (((m - d) / base : Nat) : Int) := rfl
 rw [h2]
 have : ((n : Int) > (((m - d) / base : Nat) : Int)) ↔ m < n * base + d := by
  have h3 : (m - d) / base < n ↔ m - d < n * base := Nat.div_lt_iff_lt_mul hb
  constructor
  ·intro h
   have := h3.1 (by omega)
   omega
  ·intro h
   have := h3.2 (by omega)
   omega
 exact decide_eq_decide.2 this
theorem number_loop {base m : Nat} {s : List UInt8} (hb : 2 ≤ base) (hb2 : base ≤ 16) (hm : m ≤ 1099511627776) (hn : s.length < 1125899906842624) :
  number_read.L6.f s (base : Int) (m : Int) 0 (s.length : Int) 0 = some (if valN base 0 s ≤ m then .inl ((valN base 0 s : Nat) : Int) else .inr (0, 23)) := by
 unfold number_read.L6.f
 refine (Loop_list (A := Nat) (a := 0) s (fun k n => ((n : Int), (k : Int))) (fun _ n => n ≤ m) (fun n c => if n * base + hexv c ≤ m then .inl (n * base + hexv c) else .inr (.inr (0, 23))) (fun n => Sum.inl ((n : Nat) : Int)) ?_ ?_ hn (Nat.zero_le _) rfl).trans ?_
 ·intro k n c hi hk hc
  subst hc
  have hw := wS (k := k) (by omega)
  have hd := hexv_lt s[k]
  have hbne : ¬ base = 0 := by omega
  have hnb : n * base ≤ 1099511627776 * 16 := Nat.mul_le_mul (by omega) hb2
  refine ⟨?_, fun a' h => ?_⟩
  ·by_cases h1 : (hexv s[k] : Int) > (m : Int)
   ·have h2 : ¬ n * base + hexv s[k] ≤ m := by omega
    simp [number_read.L6.t, Tr.val, octet_Hex_f, hk, h1, h2]
   ·have h3 : IntKind.i64.wrap ((m : Int) - (hexv s[k] : Int)) = (m : Int) - (hexv s[k] : Int) := w64 (by omega) (by omega)
    have h4 := tdiv_gt (n := n) (base := base) (d := hexv s[k]) (m := m) (by omega) (by omega)
    have h5 : IntKind.i64.wrap (((m : Int) - (hexv s[k] : Int)).tdiv (base : Int)) = ((m : Int) - (hexv s[k] : Int)).tdiv (base : Int) := by
     have h6 : ((m : Int) - (hexv s[k] : Int)) = ((m - hexv s[k] : Nat) : Int) := by omega
     rw [h6]
     have h7 : ((m - hexv s[k] : Nat) : Int).tdiv (base : Int) = (((m - hexv s[k]) / base : Nat) : Int) := rfl
     rw [h7]
     have h8 := Nat.div_le_self (m - hexv s[k]) base
     clear h4 h6 h7
     generalize (m - hexv s[k]) / base = q at h8 ⊢
     exact w64 (by omega) (by omega)
    have h6 : IntKind.i64.wrap ((n : Int) * (base : Int)) = ((n * base : Nat) : Int) := by
     rw [show ((n : Int) * (base : Int)) = ((n * base : Nat) : Int) from by simp]
     have h8 : n * base ≤ 17592186044416 := by omega
     clear h4 h5 h3
     generalize n * base = q at h8 ⊢
     exact w64 (by omega) (by omega)
    have h7 : IntKind.i64.wrap (((n * base : Nat) : Int) + (hexv s[k] : Int)) = ((n * base + hexv s[k] : Nat) : Int) := by
     clear h4 h5 h3
     have h8 : n * base ≤ 17592186044416 := by omega
     generalize n * base = q at h8 ⊢
     rw [w64 (by omega) (by omega)]; simp
    by_cases h8 : n * base + hexv s[k] ≤ m
    ·have h9 : ¬ m < n * base + hexv s[k] := by omega
     rw [decide_eq_false h9] at h4
     simp only [number_read.L6.t, Tr.val, getD_at hk rfl, octet_Hex_f, h3, h5, h4, h6, h7, hw, decide_eq_false h1, in_rng hk, if_pos h8, lt_nat, decide_eq_true hk, cond_true, cond_false, if_true, and_self]
     simp [hbne]
    ·have h9 : m < n * base + hexv s[k] := by omega
     rw [decide_eq_true h9] at h4
     simp only [number_read.L6.t, Tr.val, getD_at hk rfl, octet_Hex_f, h3, h5, h4, h6, h7, hw, decide_eq_false h1, in_rng hk, if_neg h8, lt_nat, decide_eq_true hk, cond_true, cond_false, if_true, and_self]
     simp [hbne]
  ·split at h
   ·cases h; assumption
   ·cases h
 ·intro n _
  simp [number_read.L6.t, Tr.val]
 ·congr 1
  have : ∀ (l : List UInt8) (n : Nat), n ≤ m → foldE (fun n c => if n * base + hexv c ≤ m then (.inl (n * base + hexv c) : Nat ⊕ (Int ⊕ (Int × Int))) else .inr (.inr (0, 23))) (fun n => Sum.inl ((n : Nat) : Int)) n l = if valN base n l ≤ m then .inl ((valN base n l : Nat) : Int) else .inr (0, 23) := by
   intro l
   induction l with
   | nil => intro n h; simp [foldE, valN, h]
   | cons c l ih =>
    intro n h
    rw [foldE, valN_cons]
    by_cases h8 : n * base + hexv c ≤ m
    ·rw [if_pos h8]; exact ih _ h8
    ·rw [if_neg h8]
     have := valN_ge (base := base) (by omega) l (n * base + hexv c)
     rw [if_neg (by omega)]
  exact this s 0 (Nat.zero_le _)
theorem mx2_nat (most : Int) : mx2 most 0 = ((max most 0).toNat : Int) := by
 unfold mx2
 simp
 omega
theorem number_read_f {base : Nat} {kind most : Int} {s : List UInt8} (hk : ∀ c, isKind kind c = isDig base c) (hb : 2 ≤ base) (hb2 : base ≤ 16) (hm : most ≤ 1099511627776) (hn : s.length < 1125899906842624) :
  number_read.f s (base : Int) most kind = some (numS base most s) := by
 unfold number_read.f number_read.t numS
 rw [octet_All1 hn, mx2_nat, number_loop hb hb2 (by omega) hn]
 have e : s.all (isKind kind) = s.all (isDig base) := by congr 1; funext c; exact hk c
 rw [e]
 by_cases h0 : s = []
 ·subst h0; simp [Tr.val]
 ·have h1 : (s == []) = false := by simpa using h0
  cases h2 : s.all (isDig base) with
  | false => simp [Tr.val, h0]
  | true =>
   by_cases h3 : valN base 0 s ≤ (max most 0).toNat
   ·have h4 : (valN base 0 s : Int) ≤ max most 0 := by omega
    simp only [Tr.val, h1, if_pos h3, if_pos h4, cond_false, Bool.not_true]; simp [h0]
   ·have h4 : ¬ (valN base 0 s : Int) ≤ max most 0 := by omega
    simp only [Tr.val, h1, if_neg h3, if_neg h4, cond_false, Bool.not_true]; simp [h0]
theorem number_Dec_f {most : Int} {s : List UInt8} (hm : most ≤ 1099511627776) (hn : s.length < 1125899906842624) : number_Dec.f s most = some (numS 10 most s) := by
 unfold number_Dec.f number_Dec.t
 rw [show (10 : Int) = ((10 : Nat) : Int) from rfl, number_read_f (fun c => by simp [isKind, isDig10]) (by decide) (by decide) hm hn]
 simp [Tr.val]
theorem indexByte_cases (c : UInt8) (s : List UInt8) : Lib.indexByte s c = if s.contains c = true then ((before c s).length : Int) else -1 := by
 by_cases h : s.contains c = true
 ·rw [if_pos h, indexByte_is h]
 ·rw [if_neg h, indexByte_not (by simpa using h)]
theorem slite_f (s : List UInt8) (c : UInt8) : slite_IndexByte.f s (c.toNat : Int) = some (if s.contains c = true then ((before c s).length : Int) else -1) := by
 unfold slite_IndexByte.f
 have : ((c.toNat : Int)).toNat.toUInt8 = c := by simp
 rw [this, indexByte_cases]
theorem before_one {c : UInt8} {s : List UInt8} (h : [c] = s) : s.contains c = true ∧ (before c s).length = 0 := by
 subst h; simp [before]
def cutT (idx : Option Int) (s : List UInt8) : Tr (List UInt8 × List UInt8 × Bool) :=
 .call idx fun y1 =>
 .br (decide (y1 ≥ (0 : Int))) (.chk ((0 : Int) ≤ (0 : Int) ∧ (0 : Int) ≤ y1 ∧ y1 ≤ (↑s.length : Int)) <| .chk ((0 : Int) ≤ IntKind.i64.wrap (y1 + (1 : Int)) ∧ IntKind.i64.wrap (y1 + (1 : Int)) ≤ (↑s.length : Int) ∧ (↑s.length : Int) ≤ (↑s.length : Int)) <| .ret (List.drop (↑(0 : Nat) : Int).toNat (List.take y1.toNat s), List.drop (IntKind.i64.wrap (y1 + (1 : Int))).toNat (List.take (↑s.length : Int).toNat s), true))
 (.ret (s, [], false))
theorem cutT_f {c : UInt8} {s : List UInt8} (hn : s.length < 1125899906842624) : (cutT (some (if s.contains c = true then ((before c s).length : Int) else -1)) s).val = some (cutC c s) := by
 unfold cutC cutT
 by_cases h : s.contains c = true
 ·have hl := before_len h
  have hw := wS (k := (before c s).length) (by omega)
  simp only [if_pos h, Tr.val, hw, Int.toNat_natCast, take_before h]
  rw [if_pos (by omega), if_pos (by omega)]
  simp [drop_after h]
 ·simp only [if_neg h]
  simp [Tr.val]
def gsT (idx : List UInt8 → Option Int) (va : List (List UInt8)) (s : List UInt8) (sepSave : Int) (n : Int) (i : Int) : Tr ((List (List UInt8) × List UInt8 × Int) ⊕ (List (List UInt8) × List UInt8 × Int)) :=
 .br (decide (i < n)) (.call (idx s) fun y1 =>
  .br (decide (y1 < (0 : Int))) (.ok ((0 : Nat) = (0 : Nat) ∧ va.length = va.length) ⟨rfl, rfl⟩ <| .ret (.inr (va, s, i)))
  (.chk ((0 : Int) ≤ (0 : Int) ∧ (0 : Int) ≤ IntKind.i64.wrap (y1 + sepSave) ∧ IntKind.i64.wrap (y1 + sepSave) ≤ (↑s.length : Int)) <| .chk ((0 : Int) ≤ i ∧ i < (↑va.length : Int)) <| .chk ((0 : Nat) + i.toNat < va.length) <| .chk ((0 : Int) ≤ IntKind.i64.wrap (y1 + (1 : Int)) ∧ IntKind.i64.wrap (y1 + (1 : Int)) ≤ (↑s.length : Int) ∧ (↑s.length : Int) ≤ (↑s.length : Int)) <| .chk ((0 : Nat) = (0 : Nat) ∧ va.length = (va.set ((0 : Nat) + i.toNat) (List.drop (↑(0 : Nat) : Int).toNat (List.take (IntKind.i64.wrap (y1 + sepSave)).toNat s))).length) <| .ret (.inl (va.set ((0 : Nat) + i.toNat) (List.drop (↑(0 : Nat) : Int).toNat (List.take (IntKind.i64.wrap (y1 + sepSave)).toNat s)), List.drop (IntKind.i64.wrap (y1 + (1 : Int))).toNat (List.take (↑s.length : Int).toNat s), IntKind.i64.wrap (i + (1 : Int))))))
 (.ok ((0 : Nat) = (0 : Nat) ∧ va.length = va.length) ⟨rfl, rfl⟩ <| .ret (.inr (va, s, i)))
theorem gs_step {idx : List UInt8 → Option Int} {c : UInt8} (hidx : ∀ s, idx s = some (if s.contains c = true then ((before c s).length : Int) else -1)) {va : List (List UInt8)} {s : List UInt8} {i n : Nat} (hi : i < n) (hv : i < va.length) (hvl : va.length < 1125899906842624) (hn : s.length < 1125899906842624) (h : s.contains c = true) :
  (gsT idx va s 0 (n : Int) (i : Int)).val = some (.inl (va.set i (before c s), after c s, ((i + 1 : Nat) : Int))) := by
 have hl := before_len h
 have hw := wS (k := (before c s).length) (by omega)
 have hw0 : IntKind.i64.wrap (((before c s).length : Int) + 0) = ((before c s).length : Int) := w64 (by omega) (by omega)
 have hwi := wS (k := i) (by omega)
 unfold gsT
 rw [hidx]
 have hneg : ¬ ((before c s).length : Int) < 0 := by omega
 simp only [if_pos h, Tr.val, hw, hw0, hwi, Int.toNat_natCast, Nat.zero_add, take_before h, decide_eq_false hneg, lt_nat, decide_eq_true hi, cond_true, cond_false, List.length_set]
 rw [if_pos (by omega), if_pos (by omega), if_pos hv, if_pos (by omega), if_pos (by simp)]
 simp [drop_after h]
theorem gs_loop {idx : List UInt8 → Option Int} {c : UInt8} (hidx : ∀ s, idx s = some (if s.contains c = true then ((before c s).length : Int) else -1)) {n : Nat} : ∀ (k : Nat) (va : List (List UInt8)) (s : List UInt8) (i m : Nat), s.count c = k → va.length = n + 1 → i + k = n → va.length < 1125899906842624 → s.length < 1125899906842624 → k < m →
  ∃ va' s', iter (fun z : List (List UInt8) × List UInt8 × Int => gsT idx z.1 z.2.1 0 (n : Int) z.2.2) m (va, s, (i : Int)) = some (va', s', (n : Int)) ∧ va'.length = n + 1 ∧ va'.set n s' = va.take i ++ splitC c s := by
 intro k
 induction k with
 | zero =>
  intro va s i m hc hv hi hvl hn hm
  have hns : s.contains c = false := by
   have := List.count_eq_zero.1 hc
   simpa using this
  have hin : i = n := by omega
  subst hin
  obtain ⟨m, rfl⟩ : ∃ m', m = m' + 1 := ⟨m - 1, by omega⟩
  refine ⟨va, s, ?_, hv, ?_⟩
  ·rw [iter]
   simp [gsT, Tr.val]
  ·rw [splitC_not hns]
   apply List.ext_getElem?
   intro j
   rw [List.getElem?_set]
   rcases Nat.lt_trichotomy j i with h | h | h
   ·rw [if_neg (by omega), List.getElem?_append_left (by simp; omega), List.getElem?_take_of_lt h]
   ·subst h
    have ht : (va.take j).length = j := by simp; omega
    rw [if_pos rfl, if_pos (by omega), List.getElem?_append_right (by omega), ht, Nat.sub_self]
    rfl
   ·rw [if_neg (by omega), List.getElem?_eq_none (by omega), List.getElem?_eq_none (by simp; omega)]
 | succ k ih =>
  intro va s i m hc hv hi hvl hn hm
  have hs : s.contains c = true := by
   have : 0 < s.count c := by omega
   have := List.count_pos_iff.1 this
   simpa using this
  obtain ⟨m, rfl⟩ : ∃ m', m = m' + 1 := ⟨m - 1, by omega⟩
  have hl := before_len hs
  have hcnt : (after c s).count c = k := by
   have h1 := splitC_len c s.length s (Nat.le_refl _)
   have h2 := splitC_len c (after c s).length (after c s) (Nat.le_refl _)
   rw [splitC_is hs, List.length_cons] at h1
   omega
  obtain ⟨va', s', h1, h2, h3⟩ := ih (va.set i (before c s)) (after c s) (i + 1) m hcnt (by simpa using hv) (by omega) (by simpa using hvl) (by omega) (by omega)
  refine ⟨va', s', ?_, h2, ?_⟩
  ·rw [iter]
   simp only [gs_step hidx (show i < n by omega) (show i < va.length by omega) hvl hn hs]
   exact h1
  ·rw [h3, splitC_is hs]
   have : (va.set i (before c s)).take (i + 1) = va.take i ++ [before c s] := by
    have ht : (va.take i).length = i := by simp; omega
    rw [List.take_set, List.take_add_one, List.getElem?_eq_getElem (show i < va.length by omega), List.set_append_right _ _ (by omega), ht, Nat.sub_self]
    rfl
   rw [this, List.append_assoc]
   rfl
def splitT (idx : List UInt8 → Option Int) (cnt : Option Int) (s : List UInt8) : Tr (List (List UInt8)) :=
 .call cnt fun y1 =>
  .chk ((0 : Int) ≤ mn2 (IntKind.i64.wrap (y1 + (1 : Int))) (IntKind.i64.wrap ((↑s.length : Int) + (1 : Int))) ∧ mn2 (IntKind.i64.wrap (y1 + (1 : Int))) (IntKind.i64.wrap ((↑s.length : Int) + (1 : Int))) ≤ mn2 (IntKind.i64.wrap (y1 + (1 : Int))) (IntKind.i64.wrap ((↑s.length : Int) + (1 : Int))) ∧ mn2 (IntKind.i64.wrap (y1 + (1 : Int))) (IntKind.i64.wrap ((↑s.length : Int) + (1 : Int))) * (↑(16 : Nat) : Int) ≤ (140737488355328 : Int) ∧ mn2 (IntKind.i64.wrap (y1 + (1 : Int))) (IntKind.i64.wrap ((↑s.length : Int) + (1 : Int))) ≤ (140737488355328 : Int)) <| .chk ((0 : Nat) = (0 : Nat) ∧ (mn2 (IntKind.i64.wrap (y1 + (1 : Int))) (IntKind.i64.wrap ((↑s.length : Int) + (1 : Int)))).toNat = (List.replicate (mn2 (IntKind.i64.wrap (y1 + (1 : Int))) (IntKind.i64.wrap ((↑s.length : Int) + (1 : Int)))).toNat ([] : List UInt8)).length) <| .call (Loop (fun z : List (List UInt8) × List UInt8 × Int => gsT idx z.1 z.2.1 0 (IntKind.i64.wrap (mn2 (IntKind.i64.wrap (y1 + (1 : Int))) (IntKind.i64.wrap ((↑s.length : Int) + (1 : Int))) - (1 : Int))) z.2.2) ((List.replicate (mn2 (IntKind.i64.wrap (y1 + (1 : Int))) (IntKind.i64.wrap ((↑s.length : Int) + (1 : Int)))).toNat ([] : List UInt8)), s, (0 : Int))) fun y2 =>
  .chk ((0 : Int) ≤ y2.snd.snd ∧ y2.snd.snd < (↑y2.fst.length : Int)) <| .chk ((0 : Nat) + y2.snd.snd.toNat < y2.fst.length) <| .chk ((0 : Int) ≤ (0 : Int) ∧ (0 : Int) ≤ IntKind.i64.wrap (y2.snd.snd + (1 : Int)) ∧ IntKind.i64.wrap (y2.snd.snd + (1 : Int)) ≤ (↑y2.fst.length : Int)) <| .chk ((0 : Nat) = (0 : Nat) ∧ (IntKind.i64.wrap (y2.snd.snd + (1 : Int)) - (↑(0 : Nat) : Int)).toNat = (y2.fst.set ((0 : Nat) + y2.snd.snd.toNat) y2.snd.fst).length) <| .ret (y2.fst.set ((0 : Nat) + y2.snd.snd.toNat) y2.snd.fst)
theorem splitT_f {idx : List UInt8 → Option Int} {c : UInt8} (hidx : ∀ s, idx s = some (if s.contains c = true then ((before c s).length : Int) else -1)) {s : List UInt8} (hn : s.length ≤ 1099511627776) :
  (splitT idx (some ((s.count c : Nat) : Int)) s).val = some (splitC c s) := by
 have hcl : s.count c ≤ s.length := List.count_le_length
 have e1 := wS (k := s.count c) (by omega)
 have e2 := wS (k := s.length) (by omega)
 have e3 : mn2 (((s.count c + 1 : Nat) : Int)) (((s.length + 1 : Nat) : Int)) = ((s.count c + 1 : Nat) : Int) := by rw [mn2_eq]; omega
 have e4 : IntKind.i64.wrap (((s.count c + 1 : Nat) : Int) - 1) = ((s.count c : Nat) : Int) := by rw [w64 (by omega) (by omega)]; omega
 obtain ⟨va, s', h1, h2, h3⟩ := gs_loop hidx (n := s.count c) (s.count c) (List.replicate (s.count c + 1) []) s 0 rounds rfl (by simp) (by omega) (by simp; omega) (by omega) (by unfold rounds; omega)
 have hL : Loop (fun z : List (List UInt8) × List UInt8 × Int => gsT idx z.1 z.2.1 0 ((s.count c : Nat) : Int) z.2.2) (List.replicate (s.count c + 1) [], s, 0) = some (va, s', ((s.count c : Nat) : Int)) := h1
 unfold splitT
 simp only [Tr.val, e1, e2, e3, e4, Int.toNat_natCast, hL, Nat.zero_add, h2, List.length_set, List.length_replicate]
 rw [if_pos (by omega), if_pos (by simp), if_pos (by omega), if_pos (by omega), if_pos (by omega), if_pos (by simp), h3]
 simp
theorem splitC_small {c : UInt8} : ∀ (n : Nat) {s : List UInt8}, s.length ≤ n → ∀ x ∈ splitC c s, x.length ≤ s.length
 | 0, s, h, x, hx => by
  have : s = [] := List.length_eq_zero_iff.1 (by omega)
  subst this
  simp [splitC] at hx
  subst hx
  simp
 | n + 1, s, h, x, hx => by
  by_cases hc : s.contains c = true
  ·have hl := before_len hc
   rw [splitC_is hc] at hx
   rcases List.mem_cons.1 hx with rfl | hx
   ·omega
   ·have := splitC_small n (show (after c s).length ≤ n by omega) x hx
    omega
  ·rw [splitC_not (by simpa using hc)] at hx
   simp at hx
   subst hx
   exact Nat.le_refl _
end Pl
end Go.Vx
end
section
set_option linter.unusedVariables false
set_option linter.unusedSimpArgs false
set_option maxRecDepth 100000
namespace Go.Vx
namespace Pl
open Go
def dc (n : Nat) : UInt8 := UInt8.ofNat (48 + n)
def dg (n : Nat) : List UInt8 := if n < 10 then [dc n] else if n < 100 then [dc (n / 10), dc (n % 10)] else [dc (n / 100), dc (n / 10 % 10), dc (n % 10)]
theorem dg_eq {n : Nat} (h : n < 1000) : Lib.decDigits n = dg n := by
 unfold dg
 split
 ·rename_i h1
  rw [Lib.decDigits, dif_pos h1]; rfl
 ·rename_i h1
  split
  ·rename_i h2
   rw [Lib.decDigits, dif_neg h1, Lib.decDigits, dif_pos (by omega)]; rfl
  ·rename_i h2
   rw [Lib.decDigits, dif_neg h1, Lib.decDigits, dif_neg (by omega), Lib.decDigits, dif_pos (by omega)]
   have : n / 10 / 10 = n / 100 := by omega
   rw [this]; rfl
theorem itoa_eq {n : Nat} (h : n < 1000) : Lib.itoa (n : Int) = dg n := by
 unfold Lib.itoa
 rw [if_neg (by omega), Int.toNat_natCast, dg_eq h]
theorem dc_hex : ∀ n : Fin 10, hexv (dc n.val) = n.val ∧ isDig 10 (dc n.val) = true ∧ dc n.val ≠ 46 ∧ dc n.val ≠ 47 := by decide +kernel
theorem dc_hexv {n : Nat} (h : n < 10) : hexv (dc n) = n := (dc_hex ⟨n, h⟩).1
theorem dc_dig {n : Nat} (h : n < 10) : isDig 10 (dc n) = true := (dc_hex ⟨n, h⟩).2.1
theorem dg_dig {n : Nat} (h : n < 1000) : ∀ c ∈ dg n, ∃ d, d < 10 ∧ c = dc d := by
 intro c hc
 unfold dg at hc
 split at hc
 ·simp at hc; exact ⟨n, by omega, hc⟩
 ·split at hc
  ·simp at hc
   rcases hc with e | e
   ·exact ⟨_, by omega, e⟩
   ·exact ⟨_, by omega, e⟩
  ·simp at hc
   rcases hc with e | e | e
   ·exact ⟨_, by omega, e⟩
   ·exact ⟨_, by omega, e⟩
   ·exact ⟨_, by omega, e⟩
theorem dg_all {n : Nat} (h : n < 1000) : (dg n).all (isDig 10) = true := by
 rw [List.all_eq_true]
 intro c hc
 obtain ⟨d, hd, rfl⟩ := dg_dig h c hc
 exact dc_dig hd
theorem dg_not {n : Nat} (h : n < 1000) {x : UInt8} (hx : x = 46 ∨ x = 47) : (dg n).contains x = false := by
 rw [List.contains_eq_any_beq, List.any_eq_false]
 intro c hc
 obtain ⟨d, hd, rfl⟩ := dg_dig h c hc
 have := (dc_hex ⟨d, hd⟩).2.2
 rcases hx with rfl | rfl
 ·intro e; exact this.1 (by simpa using (beq_iff_eq.1 e).symm)
 ·intro e; exact this.2 (by simpa using (beq_iff_eq.1 e).symm)
theorem dg_ne (n : Nat) : dg n ≠ [] := by
 unfold dg; split
 ·simp
 ·split <;> simp
theorem dg_len {n : Nat} (h : n < 1000) : 1 ≤ (dg n).length ∧ (dg n).length ≤ 3 := by
 unfold dg; split
 ·simp
 ·split <;> simp
theorem dg_val {n : Nat} (h : n < 1000) : valN 10 0 (dg n) = n := by
 unfold dg
 split
 ·rename_i h1; simp [valN, dc_hexv h1]
 ·rename_i h1
  split
  ·rename_i h2
   simp only [valN, List.foldl_cons, List.foldl_nil, dc_hexv (show n / 10 < 10 by omega), dc_hexv (show n % 10 < 10 by omega)]
   omega
  ·simp only [valN, List.foldl_cons, List.foldl_nil, dc_hexv (show n / 100 < 10 by omega), dc_hexv (show n / 10 % 10 < 10 by omega), dc_hexv (show n % 10 < 10 by omega)]
   omega
theorem numS_dg {n most : Nat} (h : n < 1000) (hm : n ≤ most) : numS 10 (most : Int) (dg n) = ((n : Int), 0) := by
 unfold numS
 rw [dg_all h, dg_val h, if_neg (by simp [dg_ne]), if_pos (by omega)]
def shortS (most : Nat) (s : List UInt8) : Int × Bool := ((numS 10 (most : Int) s).1, (numS 10 (most : Int) s).2 == 0 && dg (numS 10 (most : Int) s).1.toNat == s)
theorem numS_le {most : Nat} {s : List UInt8} : 0 ≤ (numS 10 (most : Int) s).1 ∧ (numS 10 (most : Int) s).1 ≤ most := by
 unfold numS
 split
 ·simp
 ·split <;> simp <;> omega
theorem shortS_dg {n most : Nat} (h : n < 1000) (hm : n ≤ most) : shortS most (dg n) = ((n : Int), true) := by
 unfold shortS
 rw [numS_dg h hm]
 simp
theorem shortS_is {most : Nat} {s : List UInt8} (h : (shortS most s).2 = true) : ∃ n : Nat, n ≤ most ∧ (shortS most s).1 = (n : Int) ∧ s = dg n := by
 have hl := numS_le (most := most) (s := s)
 simp only [shortS, Bool.and_eq_true, beq_iff_eq] at h
 refine ⟨(numS 10 (most : Int) s).1.toNat, by omega, ?_, h.2.symm⟩
 simp only [shortS]
 omega
theorem shortS_not {most : Nat} {s : List UInt8} {c : UInt8} (hc : s.contains c = true) (hd : isDig 10 c = false) : (shortS most s).2 = false := by
 have : s.all (isDig 10) = false := by
  rw [List.all_eq_false]
  exact ⟨c, by simpa using hc, by simp [hd]⟩
 simp [shortS, numS, this]
theorem splitC_app {c : UInt8} {a b : List UInt8} (h : a.contains c = false) : splitC c (a ++ c :: b) = a :: splitC c b := by
 have hc : (a ++ c :: b).contains c = true := by simp
 have hb : before c (a ++ c :: b) = a ∧ after c (a ++ c :: b) = b := by
  unfold before after
  induction a with
  | nil => simp
  | cons x a ih =>
   have hx : x ≠ c := by
    intro e; subst e; simp at h
   have ha : a.contains c = false := by
    simp at h ⊢; exact h.2
   have := ih ha (by simp)
   simp [hx, this]
 rw [splitC_is hc, hb.1, hb.2]
def joinC (c : UInt8) : List (List UInt8) → List UInt8
 | [] => []
 | [x] => x
 | x :: y :: l => x ++ c :: joinC c (y :: l)
theorem joinC_split {c : UInt8} : ∀ (n : Nat) (s : List UInt8), s.length ≤ n → joinC c (splitC c s) = s
 | 0, s, h => by
  have : s = [] := List.length_eq_zero_iff.1 (by omega)
  subst this; rfl
 | n + 1, s, h => by
  by_cases hc : s.contains c = true
  ·have hl := before_len hc
   rw [splitC_is hc]
   have ih := joinC_split (c := c) n (after c s) (by omega)
   cases hs : splitC c (after c s) with
   | nil => exact absurd hs (splitC_ne _ _)
   | cons y l =>
    rw [hs] at ih
    rw [joinC, ih]
    exact (before_after hc).symm
  ·rw [splitC_not (by simpa using hc)]; rfl
theorem splitC_join {c : UInt8} : ∀ (l : List (List UInt8)), l ≠ [] → (∀ x ∈ l, x.contains c = false) → splitC c (joinC c l) = l
 | [], h, _ => absurd rfl h
 | [x], _, h => splitC_not (h x (by simp))
 | x :: y :: l, _, h => by
  rw [joinC, splitC_app (h x (by simp)), splitC_join (y :: l) (by simp) fun z hz => h z (by simp at hz ⊢; exact .inr hz)]
theorem lib_join : ∀ (l : List (List UInt8)), Lib.join l [46] = joinC 46 l
 | [] => rfl
 | [x] => by rw [Lib.join_one]; rfl
 | x :: y :: l => by
  have := lib_join (y :: l)
  rw [joinC, ← this]
  simp [Lib.join, List.intercalate]
theorem bv32 {a : Nat} (h : a < 4294967296) : (BitVec.ofInt IntKind.u32.bits (a : Int)).toNat = a := by
 show (BitVec.ofInt 32 (a : Int)).toNat = a
 rw [BitVec.toNat_ofInt]
 omega
theorem bv64 {a : Nat} (h : a < 18446744073709551616) : (BitVec.ofInt IntKind.u64.bits (a : Int)).toNat = a := by
 show (BitVec.ofInt 64 (a : Int)).toNat = a
 rw [BitVec.toNat_ofInt]
 omega
theorem u_and {a b : Nat} (ha : a < 4294967296) (hb : b < 4294967296) : IntKind.u32.wrap (((BitVec.ofInt IntKind.u32.bits (a : Int) &&& BitVec.ofInt IntKind.u32.bits (b : Int)).toNat : Nat) : Int) = ((a &&& b : Nat) : Int) := by
 rw [BitVec.toNat_and, bv32 ha, bv32 hb, w32 (by omega) (by have := Nat.and_lt_two_pow a (n := 32) hb; omega)]
theorem u_or {a b : Nat} (ha : a < 4294967296) (hb : b < 4294967296) : IntKind.u32.wrap (((BitVec.ofInt IntKind.u32.bits (a : Int) ||| BitVec.ofInt IntKind.u32.bits (b : Int)).toNat : Nat) : Int) = ((a ||| b : Nat) : Int) := by
 rw [BitVec.toNat_or, bv32 ha, bv32 hb, w32 (by omega) (by have := Nat.or_lt_two_pow (n := 32) ha hb; omega)]
theorem u_xor {a b : Nat} (ha : a < 4294967296) (hb : b < 4294967296) : IntKind.u32.wrap (((BitVec.ofInt IntKind.u32.bits (a : Int) ^^^ BitVec.ofInt IntKind.u32.bits (b : Int)).toNat : Nat) : Int) = ((a ^^^ b : Nat) : Int) := by
 rw [BitVec.toNat_xor, bv32 ha, bv32 hb, w32 (by omega) (by have := Nat.xor_lt_two_pow (n := 32) ha hb; omega)]
theorem or_byte {a n : Nat} (h : n < 256) : a * 256 ||| n = a * 256 + n := by
 have := Nat.shiftLeft_add_eq_or_of_lt (a := a) (i := 8) (b := n) (by omega)
 rw [Nat.shiftLeft_eq] at this
 exact this.symm
end Pl
end Go.Vx
end
section
set_option linter.unusedVariables false
set_option linter.unusedSimpArgs false
set_option maxRecDepth 100000
namespace Go.Vx
namespace Pl
open Go Go.Proofs
theorem number_Put_f {n : Nat} (h : n < 1000) : number_Put.f (n : Int) = some (dg n) := by
 unfold number_Put.f number_Put.t strconv_Itoa.f
 have e : mx2 (n : Int) 0 = (n : Int) := by rw [mx2_eq]; omega
 rw [e, if_pos (by simp; omega), itoa_eq h]
 rfl
theorem net_short_f {most : Nat} {s : List UInt8} (hm : most < 1000) (hn : s.length < 1125899906842624) : net_short.f s (most : Int) = some (shortS most s) := by
 unfold net_short.f net_short.t
 rw [number_Dec_f (by omega) hn]
 have hl := numS_le (most := most) (s := s)
 unfold shortS
 generalize numS 10 (most : Int) s = y at hl ⊢
 obtain ⟨n, e⟩ := y
 simp only at hl
 obtain ⟨k, rfl⟩ := Int.eq_ofNat_of_zero_le hl.1
 cases h : (e == 0)
 ·simp [Tr.val, h]
 ·simp [Tr.val, h, number_Put_f (show k < 1000 by omega)]
theorem ref1_Hex_f (c : UInt8) : ref1_Hex.f (c.toNat : Int) = some ((hexv c : Int), isHex c) := byte_fn (f := ref1_Hex.f) (g := fun c => ((hexv c : Int), isHex c)) (by decide +kernel) c
def rnStep (m : Nat) (a : Nat × Bool) (c : UInt8) : (Nat × Bool) ⊕ ((Int × Bool) ⊕ (Int × Int)) :=
 if isDig 10 c = false then .inr (.inr (0, 22)) else if a.2 = true then .inl (a.1, true) else if a.1 * 10 + hexv c ≤ m then .inl (a.1 * 10 + hexv c, false) else .inl (a.1, true)
def rnFin (a : Nat × Bool) : (Int × Bool) ⊕ (Int × Int) := .inl ((a.1 : Int), a.2)
def rnOut : (Int × Bool) ⊕ (Int × Int) → Int × Int
 | .inl (n, over) => if over = true then (0, 23) else (n, 0)
 | .inr y => y
theorem rn_over {m : Nat} : ∀ (l : List UInt8) (n : Nat), rnOut (foldE (rnStep m) rnFin (n, true) l) = if l.all (isDig 10) = true then (0, 23) else (0, 22)
 | [], n => rfl
 | c :: l, n => by
  rw [foldE]
  cases h : isDig 10 c
  ·simp [rnStep, h, rnOut]
  ·simpa [rnStep, h] using rn_over l n
theorem rn_all {m : Nat} : ∀ (l : List UInt8) (n : Nat), n ≤ m → rnOut (foldE (rnStep m) rnFin (n, false) l) = if l.all (isDig 10) = true then (if valN 10 n l ≤ m then (((valN 10 n l : Nat) : Int), (0 : Int)) else (0, 23)) else (0, 22)
 | [], n, h => by simp [foldE, rnFin, rnOut, valN, h]
 | c :: l, n, h => by
  rw [foldE, valN_cons]
  cases hd : isDig 10 c
  ·simp [rnStep, hd, rnOut]
  ·by_cases h2 : n * 10 + hexv c ≤ m
   ·have := rn_all (m := m) l (n * 10 + hexv c) h2
    simpa [rnStep, hd, h2] using this
   ·have h3 := valN_ge (base := 10) (by omega) l (n * 10 + hexv c)
    have := rn_over (m := m) l n
    simp only [rnStep, hd, h2, if_false, List.all_cons, Bool.true_and]
    simp only [Bool.true_eq_false, if_false, Bool.false_eq_true]
    rw [this, if_neg (show ¬ valN 10 (n * 10 + hexv c) l ≤ m by omega)]
theorem ref1_number_loop {m : Nat} {s : List UInt8} (hm : m ≤ 1099511627776) (hn : s.length < 1125899906842624) :
  ref1_number.L6.f s 10 (m : Int) 0 false 0 = some (foldE (rnStep m) rnFin (0, false) s) := by
 unfold ref1_number.L6.f
 refine Loop_list (A := Nat × Bool) (a := (0, false)) s (fun k a => ((a.1 : Int), a.2, (k : Int))) (fun _ a => a.1 ≤ m) (rnStep m) rnFin ?_ ?_ hn (Nat.zero_le _) rfl
 ·rintro k ⟨n, over⟩ c hi hk hc
  subst hc
  have hw := wS (k := k) (by omega)
  have hd := hexv_lt s[k]
  simp only at hi
  have hb : decide (((hexv s[k] : Nat) : Int) ≥ 10) = decide (10 ≤ hexv s[k]) := by simp; omega
  constructor
  ·unfold ref1_number.L6.t rnStep
   simp only [Tr.val, getD_at hk rfl, ref1_Hex_f, hw, in_rng hk, lt_nat, decide_eq_true hk, cond_true, and_self, if_true, hb]
   cases hx : isHex s[k]
   ·have : isDig 10 s[k] = false := by simp [isDig, hx]
    simp [this]
   ·by_cases h10 : 10 ≤ hexv s[k]
    ·have : isDig 10 s[k] = false := by simp [isDig, hx]; omega
     simp [this, h10]
    ·have hdd : isDig 10 s[k] = true := by simp [isDig, hx]; omega
     cases over
     ·have h4 := tdiv_gt (n := n) (base := 10) (d := hexv s[k]) (m := m) (by omega)
      by_cases h1 : hexv s[k] ≤ m
      ·have h3 : IntKind.i64.wrap ((m : Int) - (hexv s[k] : Int)) = (m : Int) - (hexv s[k] : Int) := w64 (by omega) (by omega)
       have h5 : IntKind.i64.wrap (((m : Int) - (hexv s[k] : Int)).tdiv (10 : Int)) = ((m : Int) - (hexv s[k] : Int)).tdiv (10 : Int) := by
        have h6 : ((m : Int) - (hexv s[k] : Int)) = ((m - hexv s[k] : Nat) : Int) := by omega
        rw [h6]
        have h7 : ((m - hexv s[k] : Nat) : Int).tdiv (10 : Int) = (((m - hexv s[k]) / 10 : Nat) : Int) := rfl
        rw [h7]
        exact w64 (by omega) (by omega)
       have h6 : IntKind.i64.wrap ((n : Int) * 10) = ((n * 10 : Nat) : Int) := by rw [w64 (by omega) (by omega)]; omega
       have h7 : IntKind.i64.wrap (((n * 10 : Nat) : Int) + (hexv s[k] : Int)) = ((n * 10 + hexv s[k] : Nat) : Int) := by rw [w64 (by omega) (by omega)]; omega
       have h8 : decide ((hexv s[k] : Int) > (m : Int)) = false := by simp; omega
       have h4 := h4 h1
       rw [show ((10 : Nat) : Int) = 10 from rfl] at h4
       simp only [h3, h5, h4, h6, h7, h8, hdd, decide_eq_false h10, Bool.not_true, cond_false]
       by_cases h9 : n * 10 + hexv s[k] ≤ m
       ·have h9' : ¬ m < n * 10 + hexv s[k] := by omega
        have h8' : ¬ m < hexv s[k] := by omega
        simp [h9, h9', h8']
       ·have h9' : m < n * 10 + hexv s[k] := by omega
        simp [h9, h9']
      ·have h9 : ¬ n * 10 + hexv s[k] ≤ m := by omega
       have h8 : m < hexv s[k] := by omega
       simp only [hdd, decide_eq_false h10, Bool.not_true, cond_false, if_neg h9]
       cases decide ((n : Int) > IntKind.i64.wrap ((IntKind.i64.wrap ((m : Int) - (hexv s[k] : Int))).tdiv 10)) <;> simp [h8]
     ·simp [hdd, h10]
  ·intro a' h
   unfold rnStep at h
   split at h
   ·cases h
   ·split at h
    ·cases h; exact hi
    ·split at h
     ·cases h; assumption
     ·cases h; exact hi
 ·rintro ⟨n, over⟩ _
  simp [ref1_number.L6.t, Tr.val, rnFin]
theorem ref1_Dec_f {most : Nat} {s : List UInt8} (hm : most ≤ 1099511627776) (hn : s.length < 1125899906842624) : ref1_Dec.f s (most : Int) = some (numS 10 (most : Int) s) := by
 have h : ref1_number.f s 10 (most : Int) = some (numS 10 (most : Int) s) := by
  unfold ref1_number.f ref1_number.t
  have e : mx2 (most : Int) 0 = (most : Int) := by rw [mx2_eq]; omega
  rw [e, ref1_number_loop hm hn]
  unfold numS
  by_cases h0 : s = []
  ·subst h0; simp [Tr.val]
  ·have h1 : (s == []) = false := by simpa using h0
   have h2 := rn_all (m := most) s 0 (Nat.zero_le _)
   have h3 : (Tr.both (some (foldE (rnStep most) rnFin (0, false) s)) (fun (y1a, y1b) => Tr.br y1b (.ret ((0 : Int), (23 : Int))) (.ret (y1a, (0 : Int)))) (fun (y2a, y2b) => .ret (y2a, y2b))).val = some (rnOut (foldE (rnStep most) rnFin (0, false) s)) := by
    rcases foldE (rnStep most) rnFin (0, false) s with ⟨n, over⟩ | ⟨a, b⟩
    ·cases over <;> rfl
    ·rfl
   simp only [Tr.val, h1, cond_false] at h3 ⊢
   rw [h3, h2]
   have hx : max (most : Int) 0 = (most : Int) := by omega
   cases h4 : s.all (isDig 10)
   ·simp [h0]
   ·rw [hx]
    simp [h0, h4, Int.ofNat_le]
 unfold ref1_Dec.f ref1_Dec.t
 rw [h]; rfl
theorem val_no {α : Type} (x y : Tr α) : (Tr.br false x y).val = y.val := rfl
theorem put_digit : ∀ n : Fin 10, List.drop (mx2 (n.val : Int) (0 : Int)).toNat (List.take (IntKind.i64.wrap (mx2 (n.val : Int) (0 : Int) + (1 : Int))).toNat [(48 : UInt8), (49 : UInt8), (50 : UInt8), (51 : UInt8), (52 : UInt8), (53 : UInt8), (54 : UInt8), (55 : UInt8), (56 : UInt8), (57 : UInt8), (97 : UInt8), (98 : UInt8), (99 : UInt8), (100 : UInt8), (101 : UInt8), (102 : UInt8)]) = [dc n.val] ∧ ((0 : Int) ≤ mx2 (n.val : Int) (0 : Int) ∧ mx2 (n.val : Int) (0 : Int) ≤ IntKind.i64.wrap (mx2 (n.val : Int) (0 : Int) + (1 : Int)) ∧ IntKind.i64.wrap (mx2 (n.val : Int) (0 : Int) + (1 : Int)) ≤ (16 : Int)) := by decide +kernel
theorem put1_f {n : Nat} (h : n < 10) : ref1_put_r1.f (n : Int) 10 = some [dc n] := by
 obtain ⟨h1, h2⟩ := put_digit ⟨n, h⟩
 unfold ref1_put_r1.f ref1_put_r1.t
 have : decide ((n : Int) < 10) = true := by simp; omega
 simp only [Tr.val, this, cond_true, if_pos h2, h1]
theorem div10 (n : Nat) (h : n < 1000) : IntKind.i64.wrap ((n : Int).tdiv 10) = ((n / 10 : Nat) : Int) := by
 rw [show ((n : Int).tdiv 10) = ((n / 10 : Nat) : Int) from rfl, w64 (by omega) (by omega)]
theorem mod10 (n : Nat) : ((n : Int).tmod 10) = ((n % 10 : Nat) : Int) := rfl
theorem put2_f {n : Nat} (h : n < 100) : ref1_put_r2.f (n : Int) 10 = some (dg n) := by
 unfold ref1_put_r2.f ref1_put_r2.t dg
 by_cases h0 : n < 10
 ·obtain ⟨h1, h2⟩ := put_digit ⟨n, h0⟩
  have : decide ((n : Int) < 10) = true := by simp; omega
  simp only [Tr.val, this, cond_true, if_pos h2, h1, if_pos h0]
 ·have : decide ((n : Int) < 10) = false := by simp; omega
  rw [div10 n (by omega), mod10 n, put1_f (show n / 10 < 10 by omega), put1_f (show n % 10 < 10 by omega), if_neg h0, if_pos h]
  rw [this, val_no, Tr.val_chk (by decide), Tr.val_call rfl, Tr.val_chk (by decide), Tr.val_call rfl, Tr.val_chk (by simp)]
  rfl
theorem put3_f {n : Nat} (h : n < 1000) : ref1_put_r3.f (n : Int) 10 = some (dg n) := by
 unfold ref1_put_r3.f ref1_put_r3.t
 by_cases h0 : n < 10
 ·obtain ⟨h1, h2⟩ := put_digit ⟨n, h0⟩
  have : decide ((n : Int) < 10) = true := by simp; omega
  simp only [Tr.val, this, cond_true, if_pos h2, h1, dg, if_pos h0]
 ·have : decide ((n : Int) < 10) = false := by simp; omega
  have e1 : dg (n % 10) = [dc (n % 10)] := by simp [dg, show n % 10 < 10 by omega]
  rw [div10 n (by omega), mod10 n, put2_f (show n / 10 < 100 by omega), put2_f (show n % 10 < 100 by omega), e1]
  have e2 : dg (n / 10) ++ [dc (n % 10)] = dg n := by
   unfold dg
   rw [if_neg h0]
   by_cases h1 : n < 100
   ·rw [if_pos (show n / 10 < 10 by omega), if_pos h1]; rfl
   ·rw [if_neg (show ¬ n / 10 < 10 by omega), if_pos (show n / 10 < 100 by omega), if_neg h1]
    have : n / 10 / 10 = n / 100 := by omega
    rw [this]; rfl
  have hl := dg_len (n := n / 10) (by omega)
  rw [this, val_no, Tr.val_chk (by decide), Tr.val_call rfl, Tr.val_chk (by decide), Tr.val_call rfl, Tr.val_chk (by simp; omega), e2]
  rfl
theorem ref1_Put_f {n : Nat} (h : n < 1000) : ref1_Put.f (n : Int) = some (dg n) := by
 unfold ref1_Put.f ref1_Put.t
 rw [put3_f h]; rfl
theorem ref22_small_f {most : Nat} {s : List UInt8} (hm : most < 1000) (hn : s.length < 1125899906842624) : ref22_small.f s (most : Int) = some (shortS most s) := by
 unfold ref22_small.f ref22_small.t
 rw [ref1_Dec_f (by omega) hn]
 have hl := numS_le (most := most) (s := s)
 unfold shortS
 generalize numS 10 (most : Int) s = y at hl ⊢
 obtain ⟨n, e⟩ := y
 simp only at hl
 obtain ⟨k, rfl⟩ := Int.eq_ofNat_of_zero_le hl.1
 cases h : (e == 0)
 ·simp [Tr.val, h]
 ·simp [Tr.val, h, ref1_Put_f (show k < 1000 by omega)]
end Pl
end Go.Vx
end
section
set_option linter.unusedVariables false
set_option linter.unusedSimpArgs false
set_option maxRecDepth 100000
namespace Go.Vx
namespace Pl
open Go Go.Proofs
theorem drop_at {s : List UInt8} {a i : Nat} (ha : a ≤ i) (hi : i < s.length) : s.drop a = (s.take i).drop a ++ s[i] :: s.drop (i + 1) := by
 have h1 : s.drop i = s[i] :: s.drop (i + 1) := List.drop_eq_getElem_cons hi
 rw [← h1]
 have h2 : s.take i ++ s.drop i = s := List.take_append_drop i s
 conv => lhs; rw [← h2]
 rw [List.drop_append_of_le_length (by simp; omega)]
theorem take_next {s : List UInt8} {a i : Nat} (ha : a ≤ i) (hi : i < s.length) : (s.take (i + 1)).drop a = (s.take i).drop a ++ [s[i]] := by
 rw [List.take_add_one, List.getElem?_eq_getElem hi, Option.toList_some, List.drop_append_of_le_length (by simp; omega)]
theorem iter_inl {σ ρ : Type} {body : σ → Tr (σ ⊕ ρ)} {n : Nat} {s s' : σ} (h : (body s).val = some (.inl s')) : iter body (n + 1) s = iter body n s' := by rw [iter, h]
theorem iter_inr {σ ρ : Type} {body : σ → Tr (σ ⊕ ρ)} {n : Nat} {s : σ} {r : ρ} (h : (body s).val = some (.inr r)) : iter body (n + 1) s = some r := by rw [iter, h]
theorem rs_loop {c : UInt8} {s : List UInt8} (hn : s.length < 1073741824) : ∀ (d i a : Nat) (out : List (List UInt8)) (m : Nat), i + d = s.length → a ≤ i → ((s.take i).drop a).contains c = false → out.length ≤ i → d + 2 ≤ m →
  iter (fun z : List (List UInt8) × Int × Int => ref1_Split.L4.t z.1 s (c.toNat : Int) z.2.1 z.2.2) m (out, (a : Int), (i : Int)) = some (out ++ splitC c (s.drop a)) := by
 intro d
 induction d with
 | zero =>
  intro i a out m hi ha hc ho hm
  have : i = s.length := by omega
  subst this
  obtain ⟨m, rfl⟩ : ∃ m', m = m' + 1 + 1 := ⟨m - 2, by omega⟩
  rw [List.take_length] at hc
  have hw := wS (k := s.length) (by omega)
  have h1 : decide (((s.length : Nat) : Int) ≤ (s.length : Int)) = true := by simp
  have h2 : (((s.length : Nat) : Int) == (s.length : Int)) = true := by simp
  have h3 : decide (((s.length + 1 : Nat) : Int) ≤ (s.length : Int)) = false := by simp; omega
  have s1 : (ref1_Split.L4.t out s (c.toNat : Int) (a : Int) (s.length : Int)).val = some (.inl (out ++ [s.drop a], ((s.length + 1 : Nat) : Int), ((s.length + 1 : Nat) : Int))) := by
   simp only [ref1_Split.L4.t, Tr.val, h1, h2, cond_true, cond_false, hw, Int.toNat_natCast, List.take_length, List.drop_zero]
   rw [if_pos (by omega), if_pos (by omega), if_pos (by omega), if_pos (by simp)]
  have s2 : (ref1_Split.L4.t (out ++ [s.drop a]) s (c.toNat : Int) ((s.length + 1 : Nat) : Int) ((s.length + 1 : Nat) : Int)).val = some (.inr (out ++ [s.drop a])) := by
   simp only [ref1_Split.L4.t, Tr.val, h3, cond_false]
  rw [iter_inl (body := fun z : List (List UInt8) × Int × Int => ref1_Split.L4.t z.1 s (c.toNat : Int) z.2.1 z.2.2) s1, iter_inr (body := fun z : List (List UInt8) × Int × Int => ref1_Split.L4.t z.1 s (c.toNat : Int) z.2.1 z.2.2) s2, splitC_not hc]
 | succ d ih =>
  intro i a out m hi ha hc ho hm
  have hk : i < s.length := by omega
  obtain ⟨m, rfl⟩ : ∃ m', m = m' + 1 := ⟨m - 1, by omega⟩
  have hw := wS (k := i) (by omega)
  have h1 : decide ((i : Int) ≤ (s.length : Int)) = true := by simp; omega
  have h2 : ((i : Int) == (s.length : Int)) = false := by simp; omega
  by_cases hx : s[i] = c
  ·have e : ((s[i].toNat : Int) == (c.toNat : Int)) = true := by rw [hx]; simp
   have := ih (i + 1) (i + 1) (out ++ [(s.take i).drop a]) m (by omega) (Nat.le_refl _) (by simp) (by simp; omega) (by omega)
   have s1 : (ref1_Split.L4.t out s (c.toNat : Int) (a : Int) (i : Int)).val = some (.inl (out ++ [(s.take i).drop a], ((i + 1 : Nat) : Int), ((i + 1 : Nat) : Int))) := by
    simp only [ref1_Split.L4.t, Tr.val, h1, h2, getD_at hk rfl, getD_nat hk rfl, e, cond_true, cond_false, hw, Int.toNat_natCast, List.drop_zero, List.take_length, in_rng hk, and_self, if_true]
    rw [if_pos (by omega), if_pos (by omega), if_pos (by omega), if_pos (by simp)]
   rw [iter_inl (body := fun z : List (List UInt8) × Int × Int => ref1_Split.L4.t z.1 s (c.toNat : Int) z.2.1 z.2.2) s1, this, drop_at ha hk, hx, splitC_app hc]
   simp
  ·have e : ((s[i].toNat : Int) == (c.toNat : Int)) = false := by rw [byte_is]; simpa using hx
   have hc' : ((s.take (i + 1)).drop a).contains c = false := by
    rw [take_next ha hk, List.contains_eq_any_beq, List.any_append, ← List.contains_eq_any_beq, hc]
    simp
    exact fun e => hx e.symm
   have := ih (i + 1) a out m (by omega) (by omega) hc' (by omega) (by omega)
   have s1 : (ref1_Split.L4.t out s (c.toNat : Int) (a : Int) (i : Int)).val = some (.inl (out, (a : Int), ((i + 1 : Nat) : Int))) := by
    simp only [ref1_Split.L4.t, Tr.val, h1, h2, getD_at hk rfl, e, cond_true, cond_false, hw, in_rng hk, and_self, if_true]
   rw [iter_inl (body := fun z : List (List UInt8) × Int × Int => ref1_Split.L4.t z.1 s (c.toNat : Int) z.2.1 z.2.2) s1]
   exact this
theorem ref1_Split_f {c : UInt8} {s : List UInt8} (hn : s.length < 1073741824) : ref1_Split.f s (c.toNat : Int) = some (splitC c s) := by
 unfold ref1_Split.f ref1_Split.t ref1_Split.L4.f
 have := rs_loop (c := c) hn s.length 0 0 [] rounds (by omega) (Nat.le_refl _) (by simp) (by simp) (by unfold rounds; omega)
 rw [List.nil_append, List.drop_zero] at this
 have h : Loop (fun z : List (List UInt8) × Int × Int => ref1_Split.L4.t z.1 s (c.toNat : Int) z.2.1 z.2.2) ([], 0, 0) = some (splitC c s) := this
 rw [h]; rfl
theorem index2e_f (s : List UInt8) : strings_Index_sx2e.f s = some (if s.contains 46 = true then ((before 46 s).length : Int) else -1) := by
 unfold strings_Index_sx2e.f strings_Index_sx2e.t internal_stringslite_Index_sx2e.f internal_stringslite_Index_sx2e.t
 rw [show (46 : Int) = ((46 : UInt8).toNat : Int) from rfl, slite_f]
 by_cases h : [(46 : UInt8)] = s
 ·have := before_one h
  simp only [Tr.val, beq_iff_eq.2 h, cond_true, this.1, this.2, if_true]
  rfl
 ·simp [Tr.val, beq_eq_false_iff_ne.2 h]
theorem index2f_f (s : List UInt8) : internal_stringslite_Index_sx2f.f s = some (if s.contains 47 = true then ((before 47 s).length : Int) else -1) := by
 unfold internal_stringslite_Index_sx2f.f internal_stringslite_Index_sx2f.t
 rw [show (47 : Int) = ((47 : UInt8).toNat : Int) from rfl, slite_f]
 by_cases h : [(47 : UInt8)] = s
 ·have := before_one h
  simp only [Tr.val, beq_iff_eq.2 h, cond_true, this.1, this.2, if_true]
  rfl
 ·simp [Tr.val, beq_eq_false_iff_ne.2 h]
theorem split2e_f {s : List UInt8} (hn : s.length ≤ 1099511627776) : strings_Split_sx2e.f s = some (splitC 46 s) := by
 have h : strings_genSplit_sx2e.f s 0 (-1) = some (splitC 46 s) := by
  rw [← splitT_f index2e_f hn]; rfl
 unfold strings_Split_sx2e.f strings_Split_sx2e.t
 rw [h]; rfl
theorem cut2f_f {s : List UInt8} (hn : s.length < 1125899906842624) : strings_Cut_sx2f.f s = some (cutC 47 s) := by
 have h1 : internal_stringslite_Cut_sx2f.f s = some (cutC 47 s) := by
  unfold internal_stringslite_Cut_sx2f.f
  show (cutT (internal_stringslite_Index_sx2f.f s) s).val = _
  rw [index2f_f, cutT_f hn]
 unfold strings_Cut_sx2f.f strings_Cut_sx2f.t
 rw [h1]; rfl
def sh (a n : Int) : Int := IntKind.u32.wrap (↑(BitVec.ofInt IntKind.u32.bits (IntKind.u32.wrap (a * (2 : Int) ^ (8 : Nat))) ||| BitVec.ofInt IntKind.u32.bits (IntKind.u32.wrap n)).toNat : Int)
theorem sh_nat {a n : Nat} (ha : a < 16777216) (hn : n < 256) : sh (a : Int) (n : Int) = ((a * 256 + n : Nat) : Int) := by
 unfold sh
 rw [show (a : Int) * (2 : Int) ^ (8 : Nat) = ((a * 256 : Nat) : Int) from by simp, w32 (n := ((a * 256 : Nat) : Int)) (by omega) (by omega), w32 (n := (n : Int)) (by omega) (by omega), u_or (by omega) (by omega), or_byte hn]
def ipStep (a : Int) (x : List UInt8) : Int ⊕ (Int ⊕ (Int × Bool)) := if (shortS 255 x).2 = true then .inl (sh a (shortS 255 x).1) else .inr (.inr (0, false))
def ipFin (a : Int) : Int ⊕ (Int × Bool) := .inl a
def ipOut : Int ⊕ (Int × Bool) → Int × Bool
 | .inl v => (v, true)
 | .inr y => y
def ipL (l : List (List UInt8)) : Int × Bool := if l.length = 4 then ipOut (foldE ipStep ipFin 0 l) else (0, false)
def ipS (s : List UInt8) : Int × Bool := ipL (splitC 46 s)
theorem net_IP_loop {l : List (List UInt8)} (hl : ∀ x ∈ l, x.length < 1125899906842624) (hn : l.length < 1125899906842624) : net_IP.L6.f l 0 (l.length : Int) 0 = some (foldE ipStep ipFin 0 l) := by
 unfold net_IP.L6.f
 refine Loop_list (A := Int) (a := 0) l (fun k a => (a, (k : Int))) (fun _ _ => True) ipStep ipFin ?_ ?_ hn trivial rfl
 ·intro k a c _ hk hc
  refine ⟨?_, fun _ _ => trivial⟩
  subst hc
  have hw := wS (k := k) (by omega)
  have e : net_short.f l[k] 255 = some (shortS 255 l[k]) := net_short_f (most := 255) (by omega) (hl _ (List.getElem_mem hk))
  simp only [net_IP.L6.t, Tr.val, Nat.zero_add, Int.toNat_natCast, getD_nat hk rfl, e, in_rng hk, lt_nat, decide_eq_true hk, cond_true, and_self, if_true, hw, if_pos hk]
  unfold ipStep
  rcases h : shortS 255 l[k] with ⟨n, b⟩
  cases b <;> simp [sh]
 ·intro a _
  simp [net_IP.L6.t, Tr.val, ipFin]
theorem net_IP_f {s : List UInt8} (hn : s.length < 1073741824) : net_IP.f s = some (ipS s) := by
 unfold net_IP.f net_IP.t
 rw [split2e_f (by omega)]
 have hs : ∀ x ∈ splitC 46 s, x.length ≤ s.length := splitC_small _ (Nat.le_refl _)
 have hc := splitC_len 46 _ s (Nat.le_refl _)
 have hcl : s.count 46 ≤ s.length := List.count_le_length
 unfold ipS ipL
 by_cases h4 : (splitC 46 s).length = 4
 ·have h : (((splitC 46 s).length : Int) != 4) = false := by rw [h4]; rfl
  have hL := net_IP_loop (l := splitC 46 s) (fun x hx => by have := hs x hx; omega) (by omega)
  simp only [Tr.val, h, cond_false, hL, if_pos h4]
  rcases foldE ipStep ipFin 0 (splitC 46 s) with v | ⟨a, b⟩ <;> rfl
 ·have h : (((splitC 46 s).length : Int) != 4) = true := by simp; omega
  simp only [Tr.val, h, cond_true, if_neg h4]
def ipStep' (N : Nat) (a : Int) (x : List UInt8) : Int ⊕ (Int ⊕ (Int × Bool)) := if N = 4 then ipStep a x else .inr (.inr (0, false))
theorem ref22_IP_loop {l : List (List UInt8)} (hl : ∀ x ∈ l, x.length < 1125899906842624) (hn : l.length < 1125899906842624) : ref22_IP.L4.f l 0 0 = some (foldE (ipStep' l.length) ipFin 0 l) := by
 unfold ref22_IP.L4.f
 refine Loop_list (A := Int) (a := 0) l (fun k a => (a, (k : Int))) (fun _ _ => True) (ipStep' l.length) ipFin ?_ ?_ hn trivial rfl
 ·intro k a c _ hk hc
  refine ⟨?_, fun _ _ => trivial⟩
  subst hc
  have hw := wS (k := k) (by omega)
  have e : ref22_small.f l[k] 255 = some (shortS 255 l[k]) := ref22_small_f (most := 255) (by omega) (hl _ (List.getElem_mem hk))
  simp only [ref22_IP.L4.t, Tr.val, Nat.zero_add, Int.toNat_natCast, getD_nat hk rfl, e, in_rng hk, lt_nat, decide_eq_true hk, cond_true, and_self, if_true, hw, if_pos hk]
  unfold ipStep' ipStep
  rcases h : shortS 255 l[k] with ⟨n, b⟩
  by_cases h4 : l.length = 4
  ·have : ((l.length : Int) != 4) = false := by rw [h4]; rfl
   cases b <;> simp [sh, this, h4]
  ·have : ((l.length : Int) != 4) = true := by simp; omega
   cases b <;> simp [sh, this, h4]
 ·intro a _
  simp [ref22_IP.L4.t, Tr.val, ipFin]
theorem ref22_IP_f {s : List UInt8} (hn : s.length < 1073741824) : ref22_IP.f s = some (ipS s) := by
 unfold ref22_IP.f ref22_IP.t
 have e : ref1_Split.f s 46 = some (splitC 46 s) := ref1_Split_f (c := 46) hn
 rw [e]
 have hs : ∀ x ∈ splitC 46 s, x.length ≤ s.length := splitC_small _ (Nat.le_refl _)
 have hc := splitC_len 46 _ s (Nat.le_refl _)
 have hcl : s.count 46 ≤ s.length := List.count_le_length
 have hL := ref22_IP_loop (l := splitC 46 s) (fun x hx => by have := hs x hx; omega) (by omega)
 unfold ipS ipL
 simp only [Tr.val, hL]
 by_cases h4 : (splitC 46 s).length = 4
 ·have : ipStep' (splitC 46 s).length = ipStep := by funext a x; simp [ipStep', h4]
  rw [this, if_pos h4]
  rcases foldE ipStep ipFin 0 (splitC 46 s) with v | ⟨a, b⟩ <;> rfl
 ·have : foldE (ipStep' (splitC 46 s).length) ipFin 0 (splitC 46 s) = .inr (0, false) := by
   cases h : splitC 46 s with
   | nil => exact absurd h (splitC_ne _ _)
   | cons x l =>
    rw [h] at h4
    rw [foldE]
    simp only [ipStep', if_neg h4]
  rw [this, if_neg h4]
  simp [Tr.okl, Tr.val]
def pieces (ip : Nat) : List (List UInt8) := [dg (ip / 16777216 % 256), dg (ip / 65536 % 256), dg (ip / 256 % 256), dg (ip % 256)]
def textS (ip : Nat) : List UInt8 := joinC 46 (pieces ip)
theorem pieces_dg {ip : Nat} : ∀ x ∈ pieces ip, ∃ n, n < 256 ∧ x = dg n := by
 intro x hx
 simp only [pieces, List.mem_cons, List.not_mem_nil, or_false] at hx
 rcases hx with e | e | e | e <;> exact ⟨_, by omega, e⟩
theorem split_text (ip : Nat) : splitC 46 (textS ip) = pieces ip := by
 refine splitC_join _ (by simp [pieces]) fun x hx => ?_
 obtain ⟨n, hn, rfl⟩ := pieces_dg x hx
 exact dg_not (by omega) (.inl rfl)
theorem ipL_four {a b c d : Nat} (ha : a < 256) (hb : b < 256) (hc : c < 256) (hd : d < 256) : ipL [dg a, dg b, dg c, dg d] = (((((a * 256 + b) * 256 + c) * 256 + d : Nat) : Int), true) := by
 have s0 : sh 0 (a : Int) = (a : Int) := by have := sh_nat (a := 0) (n := a) (by omega) ha; simpa using this
 unfold ipL
 rw [if_pos (show [dg a, dg b, dg c, dg d].length = 4 from rfl)]
 simp only [foldE, ipStep, shortS_dg (n := a) (most := 255) (by omega) (by omega), shortS_dg (n := b) (most := 255) (by omega) (by omega), shortS_dg (n := c) (most := 255) (by omega) (by omega), shortS_dg (n := d) (most := 255) (by omega) (by omega), if_true, s0,
  sh_nat (a := a) (n := b) (by omega) hb, sh_nat (a := a * 256 + b) (n := c) (by omega) hc, sh_nat (a := (a * 256 + b) * 256 + c) (n := d) (by omega) hd, ipFin, ipOut]
theorem ipS_text {ip : Nat} (h : ip < 4294967296) : ipS (textS ip) = ((ip : Int), true) := by
 unfold ipS
 rw [split_text]
 unfold pieces
 rw [ipL_four (by omega) (by omega) (by omega) (by omega)]
 congr 2
 omega
theorem ipS_is {s : List UInt8} (h : (ipS s).2 = true) : ∃ ip : Nat, ip < 4294967296 ∧ (ipS s).1 = (ip : Int) ∧ s = textS ip := by
 unfold ipS at h ⊢
 have hj := joinC_split (c := 46) s.length s (Nat.le_refl _)
 by_cases h4 : (splitC 46 s).length = 4
 ·match hl : splitC 46 s, h4 with
  | [x, y, z, w], _ =>
   rw [hl] at h hj
   have q : ∀ {a : Int} {v : List UInt8} {l : List (List UInt8)}, (ipOut (foldE ipStep ipFin a (v :: l))).2 = true → ∃ n, n < 256 ∧ v = dg n ∧ (ipOut (foldE ipStep ipFin (sh a (n : Int)) l)).2 = true := by
    intro a v l hh
    rw [foldE] at hh
    unfold ipStep at hh
    cases hv : (shortS 255 v).2
    ·rw [hv] at hh; simp [ipOut] at hh
    ·obtain ⟨n, h1, h2, h3⟩ := shortS_is hv
     rw [hv, h2] at hh
     exact ⟨n, by omega, h3, hh⟩
   unfold ipL at h
   rw [if_pos (show [x, y, z, w].length = 4 from rfl)] at h
   obtain ⟨a, ha, e1, h1⟩ := q h
   obtain ⟨b, hb, e2, h2⟩ := q h1
   obtain ⟨c, hc, e3, h3⟩ := q h2
   obtain ⟨d, hd, e4, h4⟩ := q h3
   subst e1; subst e2; subst e3; subst e4
   refine ⟨((a * 256 + b) * 256 + c) * 256 + d, by omega, ?_, ?_⟩
   ·rw [ipL_four ha hb hc hd]
   ·rw [← hj]
    unfold textS pieces
    have e1 : (((a * 256 + b) * 256 + c) * 256 + d) / 16777216 % 256 = a := by omega
    have e2 : (((a * 256 + b) * 256 + c) * 256 + d) / 65536 % 256 = b := by omega
    have e3 : (((a * 256 + b) * 256 + c) * 256 + d) / 256 % 256 = c := by omega
    have e4 : (((a * 256 + b) * 256 + c) * 256 + d) % 256 = d := by omega
    rw [e1, e2, e3, e4]
 ·unfold ipL at h
  rw [if_neg h4] at h
  cases h
theorem text_len (ip : Nat) : 7 ≤ (textS ip).length ∧ (textS ip).length ≤ 15 := by
 have h1 := dg_len (n := ip / 16777216 % 256) (by omega)
 have h2 := dg_len (n := ip / 65536 % 256) (by omega)
 have h3 := dg_len (n := ip / 256 % 256) (by omega)
 have h4 := dg_len (n := ip % 256) (by omega)
 simp only [textS, pieces, joinC, List.length_append, List.length_cons]
 omega
theorem piece {ip : Nat} (h : ip < 4294967296) {j : Nat} (hj : j < 4) : IntKind.i64.wrap (IntKind.u32.wrap (↑(BitVec.ofInt IntKind.u32.bits ((ip : Int).fdiv ((2 : Int) ^ min (IntKind.i64.wrap ((8 : Int) * (j : Int))).toNat IntKind.u32.bits)) &&& BitVec.ofInt IntKind.u32.bits (255 : Int)).toNat : Int)) = ((ip / 2 ^ (8 * j) % 256 : Nat) : Int) := by
 have e1 : IntKind.i64.wrap ((8 : Int) * (j : Int)) = ((8 * j : Nat) : Int) := by rw [w64 (by omega) (by omega)]; omega
 have e2 : min (8 * j) IntKind.u32.bits = 8 * j := by show min (8 * j) 32 = 8 * j; omega
 rw [e1, Int.toNat_natCast, e2]
 have e3 : (ip : Int).fdiv ((2 : Int) ^ (8 * j)) = ((ip / 2 ^ (8 * j) : Nat) : Int) := by
  rw [show ((2 : Int) ^ (8 * j)) = ((2 ^ (8 * j) : Nat) : Int) from by simp, Int.ofNat_fdiv]
 rw [e3]
 have e4 : ip / 2 ^ (8 * j) ≤ ip := Nat.div_le_self _ _
 have := u_and (a := ip / 2 ^ (8 * j)) (b := 255) (by omega) (by omega)
 rw [show ((255 : Nat) : Int) = 255 from rfl] at this
 rw [this, Nat.and_two_pow_sub_one_eq_mod _ 8]
 exact w64 (by omega) (by omega)
theorem net_Text_f {ip : Nat} (h : ip < 4294967296) : net_Text.f (ip : Int) = some (textS ip) := by
 have hL : net_Text.L3.f [] (ip : Int) 0 = some (pieces ip) := by
  unfold net_Text.L3.f
  refine (Loop_list (A := List (List UInt8)) (a := []) (pieces ip) (fun k a => (a, (k : Int))) (fun k a => a.length = k) (fun a c => .inl (a ++ [c])) id ?_ ?_ (by simp [pieces]) rfl rfl).trans (by simp [foldE, pieces])
  ·intro k a c hi hk hc
   have hk4 : k < 4 := by simpa [pieces] using hk
   refine ⟨?_, fun a' ha' => by cases ha'; simp [hi]⟩
   have hw := wS (k := k) (by omega)
   have h0 : IntKind.i64.wrap (3 - (k : Int)) = ((3 - k : Nat) : Int) := by rw [w64 (by omega) (by omega)]; omega
   have h1 : IntKind.i64.wrap ((8 : Int) * ((3 - k : Nat) : Int)) = ((8 * (3 - k) : Nat) : Int) := by rw [w64 (by omega) (by omega)]; omega
   have h2 : decide ((k : Int) < 4) = true := by simp; omega
   have hp := piece h (j := 3 - k) (by omega)
   have h3 : c = dg (ip / 2 ^ (8 * (3 - k)) % 256) := by
    have hkk : k = 0 ∨ k = 1 ∨ k = 2 ∨ k = 3 := by omega
    rcases hkk with rfl | rfl | rfl | rfl
    ·rw [← hc, show 2 ^ (8 * (3 - 0)) = 16777216 from by decide]; rfl
    ·rw [← hc, show 2 ^ (8 * (3 - 1)) = 65536 from by decide]; rfl
    ·rw [← hc, show 2 ^ (8 * (3 - 2)) = 256 from by decide]; rfl
    ·rw [← hc]; simp [pieces]
   have h4 := number_Put_f (n := ip / 2 ^ (8 * (3 - k)) % 256) (by omega)
   unfold net_Text.L3.t
   rw [h0, hp, h4, ← h3, h2]
   simp only [Tr.val, cond_true, hw, h1, List.drop_zero, List.take_length]
   rw [if_pos (by omega), if_pos (by omega), if_pos (by omega), if_pos (by simp)]
  ·intro a _
   simp [net_Text.L3.t, Tr.val, pieces]
 unfold net_Text.f net_Text.t strings_Join.f
 rw [hL]
 have hj : Lib.join (pieces ip) [46] = textS ip := lib_join _
 have hl := text_len ip
 have hg : strings_Join.good (List.take (pieces ip).length (List.drop 0 (pieces ip))) [46] = true := by
  simp only [strings_Join.good, List.drop_zero, List.take_length, hj]
  simp [pieces]
  omega
 rw [Tr.val_call rfl, Tr.val_chk (by omega), if_pos hg, Tr.val_call rfl, List.drop_zero, List.take_length, hj]
 rfl
def pieces' (ip : Nat) : List (List UInt8) := [dg (ip / 16777216 % 256) ++ [46], dg (ip / 65536 % 256) ++ [46], dg (ip / 256 % 256) ++ [46], dg (ip % 256)]
theorem ref22_Text_f {ip : Nat} (h : ip < 4294967296) : ref22_Text.f (ip : Int) = some (textS ip) := by
 have hL : ref22_Text.L3.f (ip : Int) [] 3 = some (textS ip) := by
  unfold ref22_Text.L3.f
  refine (Loop_list (A := List UInt8) (a := []) (pieces' ip) (fun k a => (a, 3 - (k : Int))) (fun k a => a.length ≤ 4 * k) (fun a c => .inl (a ++ c)) id ?_ ?_ (by simp [pieces']) (by simp) rfl).trans (by simp [foldE, pieces', textS, pieces, joinC])
  ·intro k a c hi hk hc
   have hk4 : k < 4 := by simpa [pieces'] using hk
   have hd := dg_len (n := ip / 2 ^ (8 * (3 - k)) % 256) (by omega)
   have h3 : c = dg (ip / 2 ^ (8 * (3 - k)) % 256) ++ if k < 3 then [46] else [] := by
    have hkk : k = 0 ∨ k = 1 ∨ k = 2 ∨ k = 3 := by omega
    rcases hkk with rfl | rfl | rfl | rfl
    ·rw [← hc, show 2 ^ (8 * (3 - 0)) = 16777216 from by decide]; rfl
    ·rw [← hc, show 2 ^ (8 * (3 - 1)) = 65536 from by decide]; rfl
    ·rw [← hc, show 2 ^ (8 * (3 - 2)) = 256 from by decide]; rfl
    ·rw [← hc]; simp [pieces']
   refine ⟨?_, fun a' ha' => by
    cases ha'
    rw [h3]
    split <;> simp <;> omega⟩
   have h0 : (3 - (k : Int)) = ((3 - k : Nat) : Int) := by omega
   have h1 : IntKind.i64.wrap ((8 : Int) * ((3 - k : Nat) : Int)) = ((8 * (3 - k) : Nat) : Int) := by rw [w64 (by omega) (by omega)]; omega
   have hp := piece h (j := 3 - k) (by omega)
   have h4 := ref1_Put_f (n := ip / 2 ^ (8 * (3 - k)) % 256) (by omega)
   have h5 : IntKind.i64.wrap (((3 - k : Nat) : Int) - 1) = 3 - ((k + 1 : Nat) : Int) := by rw [w64 (by omega) (by omega)]; omega
   have h2 : decide (((3 - k : Nat) : Int) ≥ 0) = true := by simp
   unfold ref22_Text.L3.t
   simp only
   rw [h0, hp, h4, h2, h3]
   generalize dg (ip / 2 ^ (8 * (3 - k)) % 256) = q at hd ⊢
   simp only [Tr.val, cond_true, h1, h5]
   rw [if_pos (by omega), if_pos (by simp; omega)]
   by_cases h6 : k < 3
   ·have h7 : decide (((3 - k : Nat) : Int) > 0) = true := by simp; omega
    rw [h7, if_pos h6, cond_true, if_pos (by simp; omega)]
    simp
   ·have h7 : decide (((3 - k : Nat) : Int) > 0) = false := by simp; omega
    rw [h7, if_neg h6]
    simp
  ·intro a _
   simp [ref22_Text.L3.t, Tr.val, pieces']
 unfold ref22_Text.f ref22_Text.t
 rw [hL]; rfl
end Pl
end Go.Vx
end
section
set_option linter.unusedVariables false
set_option linter.unusedSimpArgs false
set_option maxRecDepth 100000
namespace Go.Vx
namespace Pl
open Go Go.Proofs
theorem wu64 {n : Int} (h0 : 0 ≤ n) (h1 : n < 18446744073709551616) : IntKind.u64.wrap n = n := by
 have : IntKind.u64.wrap n = n % 18446744073709551616 := rfl
 rw [this]
 omega
def maskN (n : Nat) : Nat := 4294967296 - 2 ^ (32 - n)
theorem mask_f : ∀ n : Fin 33, ref22_mask.f (n.val : Int) = some ((maskN n.val : Nat) : Int) := by decide +kernel
theorem ref22_mask_f {n : Nat} (h : n ≤ 32) : ref22_mask.f (n : Int) = some ((maskN n : Nat) : Int) := mask_f ⟨n, by omega⟩
theorem pow_le (n : Nat) : 2 ^ (32 - n) ≤ 4294967296 := Nat.pow_le_pow_right (n := 2) (by omega) (show 32 - n ≤ 32 by omega)
theorem pow_pos' (n : Nat) : 0 < 2 ^ (32 - n) := Nat.two_pow_pos _
theorem maskN_lt (n : Nat) : maskN n < 4294967296 := by have := pow_pos' n; unfold maskN; omega
theorem maskN_eq {n : Nat} (h : n ≤ 32) : maskN n = (2 ^ n - 1) * 2 ^ (32 - n) := by
 unfold maskN
 rw [Nat.sub_mul, ← Nat.pow_add, show n + (32 - n) = 32 by omega, Nat.one_mul]
theorem and_mask {a n : Nat} (ha : a < 4294967296) (h : n ≤ 32) : a &&& maskN n = a / 2 ^ (32 - n) * 2 ^ (32 - n) := by
 rw [maskN_eq h]
 apply Nat.eq_of_testBit_eq
 intro i
 rw [Nat.testBit_and, ← Nat.shiftLeft_eq, ← Nat.shiftLeft_eq, ← Nat.shiftRight_eq_div_pow, Nat.testBit_shiftLeft, Nat.testBit_shiftLeft, Nat.testBit_two_pow_sub_one, Nat.testBit_shiftRight]
 by_cases h1 : 32 - n ≤ i
 ·have e : 32 - n + (i - (32 - n)) = i := by omega
  rw [e]
  by_cases h2 : i < 32
  ·simp [h1, show i - (32 - n) < n by omega]
  ·have : a.testBit i = false := Nat.testBit_lt_two_pow (Nat.lt_of_lt_of_le (show a < 2 ^ 32 by omega) (Nat.pow_le_pow_right (by omega) (by omega)))
   simp [this]
 ·simp [h1]
theorem not_mask {a n : Nat} (ha : a < 4294967296) : (BitVec.ofInt IntKind.u32.bits (a : Int) &&& ~~~BitVec.ofInt IntKind.u32.bits ((maskN n : Nat) : Int)).toNat = a % 2 ^ (32 - n) := by
 have hm := maskN_lt n
 have hp := pow_le n
 have hq := pow_pos' n
 rw [BitVec.toNat_and, bv32 ha, BitVec.toNat_not, bv32 hm]
 have : 2 ^ IntKind.u32.bits - 1 - maskN n = 2 ^ (32 - n) - 1 := by
  show 4294967296 - 1 - maskN n = _
  unfold maskN; omega
 rw [this, Nat.and_two_pow_sub_one_eq_mod]
theorem mod_lt' {a n : Nat} (ha : a < 4294967296) : a % 2 ^ (32 - n) < 4294967296 := Nat.lt_of_le_of_lt (Nat.mod_le _ _) ha
theorem bad_ref {a n : Nat} (ha : a < 4294967296) : (IntKind.u32.wrap (↑(BitVec.ofInt IntKind.u32.bits (a : Int) &&& ~~~BitVec.ofInt IntKind.u32.bits ((maskN n : Nat) : Int)).toNat : Int) != (0 : Int)) = decide (a % 2 ^ (32 - n) ≠ 0) := by
 rw [not_mask ha, w32 (by omega) (by have := mod_lt' (n := n) ha; omega)]
 by_cases h : a % 2 ^ (32 - n) = 0
 ·simp [h]
 ·have : ((a % 2 ^ (32 - n) : Nat) : Int) ≠ 0 := by omega
  simp only [h, bne_iff_ne, ne_eq, this, not_false_eq_true, decide_true]
theorem bad_net {a n : Nat} (ha : a < 4294967296) (h : n ≤ 32) : (IntKind.u64.wrap (↑(BitVec.ofInt IntKind.u64.bits (IntKind.u64.wrap (IntKind.u64.wrap (a : Int) * (2 : Int) ^ min (n : Int).toNat IntKind.u64.bits)) &&& BitVec.ofInt IntKind.u64.bits (4294967295 : Int)).toNat : Int) != (0 : Int)) = decide (a % 2 ^ (32 - n) ≠ 0) := by
 have e2 : min n IntKind.u64.bits = n := by show min n 64 = n; omega
 have hp : 2 ^ n ≤ 4294967296 := Nat.pow_le_pow_right (n := 2) (by omega) h
 have hm : a * 2 ^ n < 4294967296 * 4294967296 := Nat.lt_of_lt_of_le (Nat.mul_lt_mul_of_pos_right ha (Nat.two_pow_pos n)) (Nat.mul_le_mul_left _ hp)
 rw [Int.toNat_natCast, e2, wu64 (n := (a : Int)) (by omega) (by omega), show (a : Int) * (2 : Int) ^ n = ((a * 2 ^ n : Nat) : Int) from by simp, wu64 (n := ((a * 2 ^ n : Nat) : Int)) (by omega) (by omega)]
 have e3 : (BitVec.ofInt IntKind.u64.bits ((a * 2 ^ n : Nat) : Int) &&& BitVec.ofInt IntKind.u64.bits (4294967295 : Int)).toNat = a % 2 ^ (32 - n) * 2 ^ n := by
  have := bv64 (a := 4294967295) (by omega)
  rw [show ((4294967295 : Nat) : Int) = 4294967295 from rfl] at this
  rw [BitVec.toNat_and, bv64 (by omega), this, Nat.and_two_pow_sub_one_eq_mod _ 32]
  have : 2 ^ 32 = 2 ^ (32 - n) * 2 ^ n := by rw [← Nat.pow_add]; congr 1; omega
  rw [this, Nat.mul_mod_mul_right]
 have h4 : a % 2 ^ (32 - n) * 2 ^ n ≤ a * 2 ^ n := Nat.mul_le_mul_right _ (Nat.mod_le _ _)
 rw [e3, wu64 (by omega) (by omega)]
 have hq := Nat.two_pow_pos n
 by_cases h0 : a % 2 ^ (32 - n) = 0
 ·simp [h0]
 ·have h5 : 0 < a % 2 ^ (32 - n) * 2 ^ n := Nat.mul_pos (by omega) hq
  have : ((a % 2 ^ (32 - n) * 2 ^ n : Nat) : Int) ≠ 0 := by omega
  simp only [h0, bne_iff_ne, ne_eq, this, not_false_eq_true, decide_true]
theorem xor_zero {a b : Nat} : a ^^^ b = 0 ↔ a = b := by
 constructor
 ·intro h
  have : (a ^^^ b) ^^^ b = b := by rw [h, Nat.zero_xor]
  rw [Nat.xor_assoc, Nat.xor_self, Nat.xor_zero] at this
  exact this
 ·rintro rfl; exact Nat.xor_self _
theorem has_net {a b n : Nat} (ha : a < 4294967296) (hb : b < 4294967296) (h : n ≤ 32) : ((IntKind.u64.wrap (IntKind.u32.wrap (↑(BitVec.ofInt IntKind.u32.bits (a : Int) ^^^ BitVec.ofInt IntKind.u32.bits (b : Int)).toNat : Int))).fdiv ((2 : Int) ^ min (IntKind.i64.wrap ((32 : Int) - (n : Int))).toNat IntKind.u64.bits) == (0 : Int)) = decide (a / 2 ^ (32 - n) = b / 2 ^ (32 - n)) := by
 have e1 : IntKind.i64.wrap ((32 : Int) - (n : Int)) = ((32 - n : Nat) : Int) := by rw [w64 (by omega) (by omega)]; omega
 have e2 : min (32 - n) IntKind.u64.bits = 32 - n := by show min (32 - n) 64 = 32 - n; omega
 have hx := Nat.xor_lt_two_pow (n := 32) ha hb
 rw [u_xor ha hb, e1, Int.toNat_natCast, e2, wu64 (by omega) (by omega), show ((2 : Int) ^ (32 - n)) = ((2 ^ (32 - n) : Nat) : Int) from by simp, ← Int.ofNat_fdiv, ← Nat.shiftRight_eq_div_pow, Nat.shiftRight_xor_distrib, Nat.shiftRight_eq_div_pow, Nat.shiftRight_eq_div_pow]
 by_cases h0 : a / 2 ^ (32 - n) = b / 2 ^ (32 - n)
 ·simp [h0]
 ·have h1 : (a / 2 ^ (32 - n)) ^^^ (b / 2 ^ (32 - n)) ≠ 0 := fun e => h0 (xor_zero.1 e)
  have : (((a / 2 ^ (32 - n)) ^^^ (b / 2 ^ (32 - n)) : Nat) : Int) ≠ 0 := by omega
  rw [decide_eq_false h0]
  exact beq_false_of_ne this
theorem has_ref {a b n : Nat} (ha : a < 4294967296) (hb : b < 4294967296) (h : n ≤ 32) (hz : a % 2 ^ (32 - n) = 0) : (IntKind.u32.wrap (↑(BitVec.ofInt IntKind.u32.bits (b : Int) &&& BitVec.ofInt IntKind.u32.bits ((maskN n : Nat) : Int)).toNat : Int) == (a : Int)) = decide (a / 2 ^ (32 - n) = b / 2 ^ (32 - n)) := by
 rw [u_and hb (maskN_lt n), and_mask hb h]
 have hd : a = a / 2 ^ (32 - n) * 2 ^ (32 - n) := by
  have := Nat.div_add_mod a (2 ^ (32 - n))
  rw [hz, Nat.mul_comm] at this
  omega
 by_cases h0 : a / 2 ^ (32 - n) = b / 2 ^ (32 - n)
 ·rw [← h0, ← hd, decide_eq_true rfl]; simp
 ·have : b / 2 ^ (32 - n) * 2 ^ (32 - n) ≠ a := by
   intro e
   rw [hd] at e
   exact h0 (Nat.eq_of_mul_eq_mul_right (pow_pos' n) e).symm
  rw [decide_eq_false h0]
  exact beq_false_of_ne (by omega)
def netS (s : List UInt8) : Int × Int × Bool :=
 let x := cutC 47 s
 let a := ipS x.1
 let b := shortS 32 x.2.1
 if a.2 = true ∧ b.2 = true ∧ a.1.toNat % 2 ^ (32 - b.1.toNat) = 0 then (a.1, b.1, true) else (0, 0, false)
theorem cut_small (s : List UInt8) : (cutC 47 s).1.length ≤ s.length ∧ (cutC 47 s).2.1.length ≤ s.length := by
 unfold cutC
 by_cases h : s.contains 47 = true
 ·have := before_len h
  rw [if_pos h]; simp; omega
 ·rw [if_neg h]; simp
theorem net_Net_f {s : List UInt8} (hn : s.length < 1073741824) : net_Net.f s = some (netS s) := by
 unfold net_Net.f net_Net.t
 rw [cut2f_f (by omega)]
 have hs := cut_small s
 unfold netS
 generalize cutC 47 s = x at hs ⊢
 obtain ⟨p, q, r⟩ := x
 simp only at hs
 have e1 := net_IP_f (s := p) (by omega)
 have e2 : net_short.f q 32 = some (shortS 32 q) := net_short_f (most := 32) (by omega) (by omega)
 simp only [Tr.val, e1, e2]
 cases h1 : (ipS p).2
 ·simp
 ·obtain ⟨a, ha, hae, _⟩ := ipS_is h1
  cases h2 : (shortS 32 q).2
  ·simp
  ·obtain ⟨n, hn', hne, _⟩ := shortS_is h2
   rw [hae, hne, bad_net ha hn']
   simp only [Int.toNat_natCast]
   by_cases h3 : a % 2 ^ (32 - n) = 0
   ·have : ¬ ((n : Int) < 0) := by omega
    simp [h3]
   ·have : ¬ ((n : Int) < 0) := by omega
    simp [h3]
theorem ref22_Net_f {s : List UInt8} (hn : s.length < 1073741824) : ref22_Net.f s = some (netS s) := by
 unfold ref22_Net.f ref22_Net.t
 have e0 : ref1_Split.f s 47 = some (splitC 47 s) := ref1_Split_f (c := 47) hn
 rw [e0]
 unfold netS cutC
 by_cases hc : s.contains 47 = true
 ·have hl := before_len hc
  rw [splitC_is hc, if_pos hc]
  simp only
  by_cases hc2 : (after 47 s).contains 47 = true
  ·have hb : (shortS 32 (after 47 s)).2 = false := shortS_not hc2 (by decide)
   have hlen : (before 47 s :: splitC 47 (after 47 s)).length ≠ 2 := by
    rw [splitC_is hc2]
    have := List.length_pos_iff.2 (splitC_ne 47 (after 47 (after 47 s)))
    simp; intro h; simp [h] at this
   have : (((before 47 s :: splitC 47 (after 47 s)).length : Int) != 2) = true := by
    simp only [bne_iff_ne, ne_eq]; omega
   simp only [Tr.val, this, cond_true, hb]
   simp
  ·have hs1 : splitC 47 (after 47 s) = [after 47 s] := splitC_not (by simpa using hc2)
   rw [hs1]
   have e1 := ref22_IP_f (s := before 47 s) (by omega)
   have e2 : ref22_small.f (after 47 s) 32 = some (shortS 32 (after 47 s)) := ref22_small_f (most := 32) (by omega) (by omega)
   have e3 : (([before 47 s, after 47 s].length : Int) != 2) = false := by simp
   have e4 : [before 47 s, after 47 s].getD 0 [] = before 47 s := rfl
   have e5 : [before 47 s, after 47 s].getD 1 [] = after 47 s := rfl
   simp only [Tr.val, e3, cond_false, e4, e5, e1, e2]
   rw [if_pos (by simp), if_pos (by simp), if_pos (by simp), if_pos (by simp)]
   cases h1 : (ipS (before 47 s)).2
   ·simp
   ·obtain ⟨a, ha, hae, _⟩ := ipS_is h1
    cases h2 : (shortS 32 (after 47 s)).2
    ·simp
    ·obtain ⟨n, hn', hne, _⟩ := shortS_is h2
     rw [hae, hne, ref22_mask_f hn']
     simp only [Int.toNat_natCast, Tr.val, Bool.not_true, cond_false, bad_ref ha]
     by_cases h3 : a % 2 ^ (32 - n) = 0 <;> simp [h3]
 ·rw [splitC_not (by simpa using hc), if_neg hc]
  have hb : (shortS 32 []).2 = false := by decide
  have : (([s].length : Int) != 2) = true := by simp
  simp only [Tr.val, this, cond_true, hb]
  simp
theorem netS_is {s : List UInt8} (h : (netS s).2.2 = true) : ∃ a n : Nat, a < 4294967296 ∧ n ≤ 32 ∧ netS s = ((a : Int), (n : Int), true) ∧ a % 2 ^ (32 - n) = 0 := by
 unfold netS at h ⊢
 simp only at h ⊢
 split at h
 ·rename_i hc
  rw [if_pos hc]
  obtain ⟨a, ha, hae, _⟩ := ipS_is hc.1
  obtain ⟨n, hn, hne, _⟩ := shortS_is hc.2.1
  have h3 := hc.2.2
  rw [hae, hne, Int.toNat_natCast, Int.toNat_natCast] at h3
  exact ⟨a, n, ha, hn, by rw [hae, hne], h3⟩
 ·cases h
def hasS (s : List UInt8) (ip : Nat) : Bool := (netS s).2.2 && decide ((netS s).1.toNat / 2 ^ (32 - (netS s).2.1.toNat) = ip / 2 ^ (32 - (netS s).2.1.toNat))
theorem net_Has_f {s : List UInt8} {ip : Nat} (hn : s.length < 1073741824) (h : ip < 4294967296) : net_Has.f s (ip : Int) = some (hasS s ip) := by
 unfold net_Has.f net_Has.t hasS
 rw [net_Net_f hn]
 cases h1 : (netS s).2.2
 ·simp [Tr.val, h1]
 ·obtain ⟨a, n, ha, hn', he, hz⟩ := netS_is h1
  rw [he]
  have e1 : IntKind.i64.wrap ((32 : Int) - (n : Int)) = ((32 - n : Nat) : Int) := by rw [w64 (by omega) (by omega)]; omega
  have e3 := has_net ha h hn'
  simp only [Tr.val, cond_true, e3, Int.toNat_natCast]
  rw [e1, if_pos (by omega)]
  simp
theorem ref22_Has_f {s : List UInt8} {ip : Nat} (hn : s.length < 1073741824) (h : ip < 4294967296) : ref22_Has.f s (ip : Int) = some (hasS s ip) := by
 unfold ref22_Has.f ref22_Has.t hasS
 rw [ref22_Net_f hn]
 cases h1 : (netS s).2.2
 ·simp [Tr.val, h1]
 ·obtain ⟨a, n, ha, hn', he, hz⟩ := netS_is h1
  rw [he]
  have e3 := has_ref ha h hn' hz
  simp only [Tr.val, cond_true, ref22_mask_f hn', e3, Int.toNat_natCast]
  simp
theorem netS_own {a n : Nat} (ha : a < 4294967296) (hn : n ≤ 32) : netS (textS a ++ 47 :: dg n) = if a % 2 ^ (32 - n) = 0 then ((a : Int), (n : Int), true) else (0, 0, false) := by
 have ht : (textS a).contains 47 = false := by
  simp only [textS, pieces, joinC, List.contains_eq_any_beq, List.any_append, List.any_cons]
  have q : ∀ k, k < 256 → (dg k).any (fun x => (47 : UInt8) == x) = false := fun k hk => by
   rw [← List.contains_eq_any_beq]; exact dg_not (by omega) (.inr rfl)
  rw [q _ (by omega), q _ (by omega), q _ (by omega), q _ (by omega)]
  decide
 have hs := splitC_app (b := dg n) ht
 have hc : (textS a ++ 47 :: dg n).contains 47 = true := by simp
 rw [splitC_is hc] at hs
 have hb : before 47 (textS a ++ 47 :: dg n) = textS a := (List.cons.inj hs).1
 have hbl := before_len hc
 have hba := before_after hc
 rw [hb] at hba
 have haf : after 47 (textS a ++ 47 :: dg n) = dg n := by
  have := List.append_cancel_left hba
  exact (List.cons.inj this).2.symm
 have e1 : cutC 47 (textS a ++ 47 :: dg n) = (textS a, dg n, true) := by
  unfold cutC
  rw [if_pos hc, hb, haf]
 unfold netS
 rw [e1]
 simp only [ipS_text ha, shortS_dg (n := n) (most := 32) (by omega) hn, Int.toNat_natCast, true_and]
end Pl
end Go.Vx
end
