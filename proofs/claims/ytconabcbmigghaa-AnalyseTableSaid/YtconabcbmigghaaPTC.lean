/- Printed by a program of ours out of our texts: the evaluator, the printed functions, the plain laws. (A help: no statement of the seat is proved here.) -/
import Derived.Test.YtconabcbmigghaaPTB
import Derived.OpenShut
import Derived.ReadAgain
import Derived.Test.YtconabcbmigghaaChecked
import Derived.KernelRfl
section
set_option linter.unusedVariables false
set_option linter.unusedSimpArgs false
namespace Go.Vx
def matLitS (v : AV) (l : List AV) (k : List AV → Prop) : Prop := match l with
 | u :: l => match litOk v u with
  | true => k l
  | false => False
 | [] => False
def matPtrS (g e z o : Nat) (l : List AV) (ρ : Rho) (k : List AV → Rho → Prop) : Prop := match l with
 | .ptr _ (some r) :: l => match Nat.beq r.e e && Nat.beq r.z z && Nat.beq r.o o with
  | true => match ρ.find g with
   | none => k l ((g, .whole r.g) :: ρ)
   | some (.whole g') => match Nat.beq g' r.g with
    | true => k l ρ
    | false => False
   | _ => False
  | false => False
 | _ => False
def matSlS (H : Heap) (g z : Nat) (l : List AV) (ρ : Rho) (k : List AV → Rho → Prop) : Prop := match l with
 | .slice _ none _ _ :: l => match ρ.find g with
   | none => k l ((g, .nil) :: ρ)
   | some .nil => k l ρ
   | _ => False
 | .slice t (some r) n z' :: l => match Nat.beq z' z && Nat.beq r.z z && Nat.beq r.o 0 with
  | true => match ρ.find g with
   | none => k l ((g, .win r.g r.e n z) :: ρ)
   | some (.whole g') => match Nat.beq g' r.g with
    | true => must (rowLen H r.g z) fun m => need true (r.e = 0 ∧ n = m) (k l ρ)
    | false => False
   | some (.win g' e' n' z0) => match Nat.beq g' r.g && Nat.beq z0 z with
    | true => need true (e' = r.e ∧ n' = n) (k l ρ)
    | false => False
   | _ => False
  | false => False
 | .vec t x :: l => match Nat.beq t.z z with
  | true => match ρ.find g with
   | none => k l ((g, .inl t x) :: ρ)
   | _ => False
  | false => False
 | _ => False
def matDatS (H : Heap) (t : Ty) (l : List AV) (k : List t.den → List AV → Prop) : Prop := match l with
 | .slice _ (some r) n z :: l => match H.get r.g with
  | some (.fro t' L _) => if h : t' = t then (match Nat.beq r.z t'.z && Nat.beq r.o 0 && Nat.beq z t'.z with
   | true => need true (r.e + n ≤ L.length) (k (h ▸ (L.drop r.e).take n) l)
   | false => False) else False
  | _ => False
 | l => decSlS t l k
def matPartS (g z : Nat) (l : List AV) (ρ : Rho) (k : Nat × Nat → List AV → Rho → Prop) : Prop := match l with
 | .slice _ (some r) n z' :: l => match Nat.beq z' z && Nat.beq r.z z && Nat.beq r.o 0 with
  | true => match ρ.find g with
   | none => k (r.e, n) l ((g, .whole r.g) :: ρ)
   | some (.whole g') => match Nat.beq g' r.g with
    | true => k (r.e, n) l ρ
    | false => False
   | _ => False
  | false => False
 | _ => False
def matVS (H : Heap) : (p : VP) → List AV → Rho → (p.den → List AV → Rho → Prop) → Prop
 | .bool, l, ρ, k => decBoolS l fun x l => k x l ρ
 | .int kd, l, ρ, k => decIntS kd l fun x l => k x l ρ
 | .num kd, l, ρ, k => decIntS kd l fun x l => k x l ρ
 | .byte, l, ρ, k => decByteS l fun x l => k x l ρ
 | .str, l, ρ, k => decStrS l fun x l => k x l ρ
 | .vec t, l, ρ, k => matDatS H t l fun x l => k x l ρ
 | .lit v, l, ρ, k => matLitS v l fun l => k () l ρ
 | .ptr g e z o, l, ρ, k => matPtrS g e z o l ρ fun l ρ => k () l ρ
 | .sl g z, l, ρ, k => matSlS H g z l ρ fun l ρ => k () l ρ
 | .part g z, l, ρ, k => matPartS g z l ρ k
 | .nil, l, ρ, k => k () l ρ
 | .cat a b, l, ρ, k => matVS H a l ρ fun x l ρ => matVS H b l ρ fun y l ρ => k (x, y) l ρ
 | .agg p, l, ρ, k => match l with
  | .agg cs :: l => matVS H p cs ρ fun x rest ρ => match rest with
   | [] => k x l ρ
   | _ => False
  | _ => False
 | .tup p, l, ρ, k => match l with
  | .tup cs :: l => matVS H p cs ρ fun x rest ρ => match rest with
   | [] => k x l ρ
   | _ => False
  | _ => False
 | .func f p q, l, ρ, k => match l with
  | .func f' xs ys :: l => if f' = f then matVS H p xs ρ fun x rest ρ => match rest with
    | [] => matVS H q ys ρ fun y rest ρ => match rest with
     | [] => k (x, y) l ρ
     | _ => False
    | _ => False
   else False
  | _ => False
def matVecS (H : Heap) (t : Ty) (ro : Bool) (s : Src) (k : List t.den → Prop) : Prop := match s with
 | .whole g => match H.get g with
  | some (.vec t' L _ ro') => if h : t' = t then (match ro || !ro' with
   | true => k (h ▸ L)
   | false => False) else False
  | _ => False
 | .win g e n z => match Nat.beq z t.z && !(Nat.beq z 0) with
  | true => match H.get g with
   | some (.vec t' L _ ro') => if h : t' = t then
     (match ro with
      | true => need true (e + n ≤ L.length) (k (h ▸ (L.drop e).take n))
      | false => match ro' with
       | false => need true (e = 0 ∧ n = L.length) (k (h ▸ L))
       | true => False) else False
   | some (.fro t' L _) => if h : t' = t then
     (match ro with
      | true => need true (e + n ≤ L.length) (k (h ▸ (L.drop e).take n))
      | false => False) else False
   | some (.cells cs _ ro') => match ro with
    | true => match Nat.ble (e * z + n * z) cs.length with
     | true => decLS t ((cs.drop (e * z)).take (n * z)) k
     | false => False
    | false => match Nat.beq e 0 && Nat.beq (n * z) cs.length && !ro' with
     | true => decLS t cs k
     | false => False
   | _ => False
  | false => False
 | .nil => k []
 | .inl t' l => if h : t' = t then (match ro && !(Nat.beq t.z 0) with
  | true => k (h ▸ l)
  | false => False) else False
def matRS (H : Heap) : (r : RP) → Option Src → Rho → (r.den → Rho → Prop) → Prop
 | .dead, _, ρ, k => k () ρ
 | .vec t _ ro, s, ρ, k => match s with
  | some s => matVecS H t ro s fun l => k l ρ
  | none => False
 | .cells p _ ro, s, ρ, k => match s with
  | some (.whole g) => match H.get g with
   | some (.cells cs _ ro') => match ro || !ro' with
    | true => matVS H p cs ρ fun x rest ρ => match rest with
     | [] => k x ρ
     | _ => False
    | false => False
   | _ => False
  | _ => False
def matRsS (H : Heap) : (rs : List RP) → Nat → Rho → (rowsDen rs → Rho → Prop) → Prop
 | [], _, ρ, k => k () ρ
 | r :: rs, i, ρ, k => matRS H r (ρ.find i) ρ fun x ρ => matRsS H rs (i + 1) ρ fun xs ρ => k (x, xs) ρ
def Dom.matS (D : Dom) (vs : List AV) (H : Heap) (ρ0 : Rho) (k : D.den → Rho → Prop) : Prop :=
 matVS H D.vals vs ρ0 fun xv rest ρ1 => match rest with
  | [] => matRsS H D.rows 0 ρ1 fun xr ρ => match below D.rows.length ρ && injOk (froms ρ D.rows 0) && deads H ρ D.rows 0 && slsOk D with
   | true => k (xr, xv) ρ
   | false => False
  | _ => False
theorem matVS_elim {H : Heap} : (p : VP) → {l : List AV} → {ρ : Rho} → {k : p.den → List AV → Rho → Prop} → matVS H p l ρ k → ∃ x l' ρ', matV H p l ρ = some (x, l', ρ') ∧ k x l' ρ'
 | .bool, l, ρ, k, h => by
  simp only [matVS] at h
  obtain ⟨x, l', hd, hk⟩ := decS_elim .bool (k := fun x l => k x l ρ) h
  simp only [dec] at hd
  exact ⟨x, l', ρ, by simp only [matV, hd, Option.map_some], hk⟩
 | .int kd, l, ρ, k, h => by
  simp only [matVS] at h
  obtain ⟨x, l', hd, hk⟩ := decS_elim (.int kd) (k := fun x l => k x l ρ) h
  simp only [dec] at hd
  exact ⟨x, l', ρ, by simp only [matV, hd, Option.map_some], hk⟩
 | .num kd, l, ρ, k, h => by
  simp only [matVS] at h
  obtain ⟨x, l', hd, hk⟩ := decS_elim (.int kd) (k := fun x l => k x l ρ) h
  simp only [dec] at hd
  exact ⟨x, l', ρ, by simp only [matV, hd, Option.map_some], hk⟩
 | .byte, l, ρ, k, h => by
  simp only [matVS] at h
  obtain ⟨x, l', hd, hk⟩ := decS_elim .byte (k := fun x l => k x l ρ) h
  simp only [dec] at hd
  exact ⟨x, l', ρ, by simp only [matV, hd, Option.map_some], hk⟩
 | .str, l, ρ, k, h => by
  simp only [matVS] at h
  obtain ⟨x, l', hd, hk⟩ := decS_elim .str (k := fun x l => k x l ρ) h
  simp only [dec] at hd
  exact ⟨x, l', ρ, by simp only [matV, hd, Option.map_some], hk⟩
 | .vec t, l, ρ, k, h => by
  simp only [matVS] at h
  unfold matDatS at h
  split at h
  ·split at h
   ·rename_i hg
    split at h
    ·rename_i ht
     split at h
     ·rename_i hb
      simp only [Bool.and_eq_true] at hb
      obtain ⟨h1, h2⟩ := need_elim h
      exact ⟨_, _, ρ, by simp only [matV, matDat, hg, dif_pos ht]; rw [if_pos ⟨Nat.eq_of_beq_eq_true hb.1.1, Nat.eq_of_beq_eq_true hb.1.2, Nat.eq_of_beq_eq_true hb.2, h1⟩]; rfl, h2⟩
     ·exact h.elim
    ·exact h.elim
   ·exact h.elim
  ·rename_i hn
   obtain ⟨x, l', hd, hk⟩ := decS_elim (.sl t) (k := fun x l => k x l ρ) h
   simp only [dec] at hd
   have e : matDat H t l = decSl t l := by
    unfold matDat
    split
    ·rename_i b r n z l'; exact absurd rfl (hn b r n z l')
    ·rfl
   exact ⟨x, l', ρ, by simp only [matV, e, hd, Option.map_some], hk⟩
 | .lit v, l, ρ, k, h => by
  simp only [matVS] at h
  unfold matLitS at h
  split at h
  ·split at h
   ·rename_i hl; exact ⟨(), _, ρ, by simp only [matV, matLit, if_pos hl, Option.map_some], h⟩
   ·exact h.elim
  ·exact h.elim
 | .ptr g e z o, l, ρ, k, h => by
  simp only [matVS] at h
  unfold matPtrS at h
  split at h
  ·split at h
   ·rename_i hc
    simp only [Bool.and_eq_true] at hc
    have hc' := And.intro (Nat.eq_of_beq_eq_true hc.1.1) (And.intro (Nat.eq_of_beq_eq_true hc.1.2) (Nat.eq_of_beq_eq_true hc.2))
    split at h
    ·rename_i hf; exact ⟨(), _, _, by simp only [matV, matPtr, if_pos hc', hf, Option.map_some], h⟩
    ·rename_i g' hf
     split at h
     ·rename_i hg; exact ⟨(), _, _, by simp only [matV, matPtr, if_pos hc', hf, if_pos (Nat.eq_of_beq_eq_true hg), Option.map_some], h⟩
     ·exact h.elim
    ·exact h.elim
   ·exact h.elim
  ·exact h.elim
 | .sl g z, l, ρ, k, h => by
  simp only [matVS] at h
  unfold matSlS at h
  split at h
  ·split at h
   ·rename_i hf; exact ⟨(), _, _, by simp only [matV, matSl, hf, Option.map_some], h⟩
   ·rename_i hf; exact ⟨(), _, _, by simp only [matV, matSl, hf, Option.map_some], h⟩
   ·exact h.elim
  ·split at h
   ·rename_i hc
    simp only [Bool.and_eq_true] at hc
    have hc' := And.intro (Nat.eq_of_beq_eq_true hc.1.1) (And.intro (Nat.eq_of_beq_eq_true hc.1.2) (Nat.eq_of_beq_eq_true hc.2))
    split at h
    ·rename_i hf; exact ⟨(), _, _, by simp only [matV, matSl, if_pos hc', hf, Option.map_some], h⟩
    ·rename_i g' hf
     split at h
     ·rename_i hg
      obtain ⟨m, hm, h⟩ := must_elim h
      obtain ⟨h1, h2⟩ := need_elim h
      exact ⟨(), _, _, by simp only [matV, matSl, if_pos hc', hf]; rw [if_pos ⟨Nat.eq_of_beq_eq_true hg, h1.1, by rw [hm, h1.2]⟩]; rfl, h2⟩
     ·exact h.elim
    ·rename_i g' e' n' z0 hf
     split at h
     ·rename_i hg
      simp only [Bool.and_eq_true] at hg
      obtain ⟨h1, h2⟩ := need_elim h
      exact ⟨(), _, _, by simp only [matV, matSl, if_pos hc', hf]; rw [if_pos ⟨Nat.eq_of_beq_eq_true hg.1, h1.1, h1.2, Nat.eq_of_beq_eq_true hg.2⟩]; rfl, h2⟩
     ·exact h.elim
    ·exact h.elim
   ·exact h.elim
  ·split at h
   ·rename_i hz
    split at h
    ·rename_i hf; exact ⟨(), _, _, by simp only [matV, matSl, if_pos (Nat.eq_of_beq_eq_true hz), hf, Option.map_some], h⟩
    ·exact h.elim
   ·exact h.elim
  ·exact h.elim
 | .part g z, l, ρ, k, h => by
  simp only [matVS] at h
  unfold matPartS at h
  split at h
  ·split at h
   ·rename_i hc
    simp only [Bool.and_eq_true] at hc
    have hc' := And.intro (Nat.eq_of_beq_eq_true hc.1.1) (And.intro (Nat.eq_of_beq_eq_true hc.1.2) (Nat.eq_of_beq_eq_true hc.2))
    split at h
    ·rename_i hf; exact ⟨_, _, _, by simp only [matV, matPart, if_pos hc', hf], h⟩
    ·rename_i g' hf
     split at h
     ·rename_i hg; exact ⟨_, _, _, by simp only [matV, matPart, if_pos hc', hf, if_pos (Nat.eq_of_beq_eq_true hg)], h⟩
     ·exact h.elim
    ·exact h.elim
   ·exact h.elim
  ·exact h.elim
 | .nil, l, ρ, k, h => ⟨(), l, ρ, rfl, h⟩
 | .cat a b, l, ρ, k, h => by
  simp only [matVS] at h
  obtain ⟨x, l1, ρ1, h1, h⟩ := matVS_elim a h
  obtain ⟨y, l2, ρ2, h2, h⟩ := matVS_elim b h
  exact ⟨_, _, _, by simp only [matV, h1, h2], h⟩
 | .agg p, l, ρ, k, h => by
  simp only [matVS] at h
  split at h
  ·obtain ⟨x, l1, ρ1, h1, h⟩ := matVS_elim p h
   split at h
   ·exact ⟨_, _, _, by simp only [matV, h1], h⟩
   ·exact h.elim
  ·exact h.elim
 | .tup p, l, ρ, k, h => by
  simp only [matVS] at h
  split at h
  ·obtain ⟨x, l1, ρ1, h1, h⟩ := matVS_elim p h
   split at h
   ·exact ⟨_, _, _, by simp only [matV, h1], h⟩
   ·exact h.elim
  ·exact h.elim
 | .func f p q, l, ρ, k, h => by
  simp only [matVS] at h
  split at h
  ·split at h
   ·rename_i hf
    obtain ⟨x, l1, ρ1, h1, h⟩ := matVS_elim p h
    split at h
    ·obtain ⟨y, l2, ρ2, h2, h⟩ := matVS_elim q h
     split at h
     ·exact ⟨_, _, _, by simp only [matV, if_pos hf, h1, h2], h⟩
     ·exact h.elim
    ·exact h.elim
   ·exact h.elim
  ·exact h.elim
theorem matVecS_elim {H : Heap} {t : Ty} {ro : Bool} {s : Src} {k : List t.den → Prop} (h : matVecS H t ro s k) : ∃ l, matVec H t ro s = some l ∧ k l := by
 unfold matVecS at h
 split at h
 ·split at h
  ·rename_i hg
   split at h
   ·rename_i ht
    split at h
    ·rename_i hr
     refine ⟨_, ?_, h⟩
     simp only [matVec, hg, dif_pos ht]
     rw [if_pos (by intro e; rw [e] at hr; simpa using hr)]
    ·exact h.elim
   ·exact h.elim
  ·exact h.elim
 ·split at h
  ·rename_i hz
   have hz' : ∀ {z : Nat}, (Nat.beq z t.z && !(Nat.beq z 0)) = true → z = t.z ∧ z ≠ 0 := by
    intro z hz
    simp only [Bool.and_eq_true, Bool.not_eq_true'] at hz
    exact ⟨Nat.eq_of_beq_eq_true hz.1, Nat.ne_of_beq_eq_false hz.2⟩
   have hz := hz' hz
   split at h
   ·rename_i hg
    split at h
    ·rename_i ht
     split at h
     ·obtain ⟨h1, h2⟩ := need_elim h
      exact ⟨_, by simp only [matVec, if_pos hz, hg, dif_pos ht, if_pos h1], h2⟩
     ·split at h
      ·obtain ⟨h1, h2⟩ := need_elim h
       exact ⟨_, by simp only [matVec, if_pos hz, hg, dif_pos ht]; rw [if_pos ⟨h1.1, h1.2, trivial⟩], h2⟩
      ·exact h.elim
    ·exact h.elim
   ·rename_i hg
    split at h
    ·rename_i ht
     split at h
     ·obtain ⟨h1, h2⟩ := need_elim h
      exact ⟨_, by simp only [matVec, if_pos hz, hg, dif_pos ht, if_pos h1], h2⟩
     ·exact h.elim
    ·exact h.elim
   ·rename_i hg
    split at h
    ·split at h
     ·rename_i hb
      obtain ⟨l, hl, hk⟩ := decLS_elim h
      exact ⟨l, by simp only [matVec, if_pos hz, hg, if_pos (Nat.le_of_ble_eq_true hb), hl], hk⟩
     ·exact h.elim
    ·split at h
     ·rename_i hb
      obtain ⟨l, hl, hk⟩ := decLS_elim h
      simp only [Bool.and_eq_true, Bool.not_eq_true'] at hb
      exact ⟨l, by simp only [matVec, if_pos hz, hg]; rw [if_pos ⟨Nat.eq_of_beq_eq_true hb.1.1, Nat.eq_of_beq_eq_true hb.1.2, hb.2⟩, hl], hk⟩
     ·exact h.elim
   ·exact h.elim
  ·exact h.elim
 ·exact ⟨[], rfl, h⟩
 ·split at h
  ·rename_i ht
   split at h
   ·rename_i hc
    simp only [Bool.and_eq_true, Bool.not_eq_true'] at hc
    exact ⟨_, by simp only [matVec, dif_pos ht]; rw [if_pos ⟨hc.1, Nat.ne_of_beq_eq_false hc.2⟩], h⟩
   ·exact h.elim
  ·exact h.elim
theorem matRS_elim {H : Heap} : (r : RP) → {s : Option Src} → {ρ : Rho} → {k : r.den → Rho → Prop} → matRS H r s ρ k → ∃ x ρ', matR H r s ρ = some (x, ρ') ∧ k x ρ'
 | .dead, s, ρ, k, h => ⟨(), ρ, rfl, h⟩
 | .vec t e ro, s, ρ, k, h => by
  simp only [matRS] at h
  split at h
  ·obtain ⟨l, hl, hk⟩ := matVecS_elim h
   exact ⟨l, ρ, by simp only [matR, hl, Option.map_some], hk⟩
  ·exact h.elim
 | .cells p e ro, s, ρ, k, h => by
  simp only [matRS] at h
  split at h
  ·split at h
   ·rename_i hg
    split at h
    ·rename_i hr
     obtain ⟨x, l1, ρ1, h1, h⟩ := matVS_elim p h
     split at h
     ·refine ⟨_, _, ?_, h⟩
      simp only [matR, hg]
      rw [if_pos (by intro e; rw [e] at hr; simpa using hr), h1]
     ·exact h.elim
    ·exact h.elim
   ·exact h.elim
  ·exact h.elim
theorem matRsS_elim {H : Heap} : (rs : List RP) → {i : Nat} → {ρ : Rho} → {k : rowsDen rs → Rho → Prop} → matRsS H rs i ρ k → ∃ x ρ', matRs H rs i ρ = some (x, ρ') ∧ k x ρ'
 | [], i, ρ, k, h => ⟨(), ρ, rfl, h⟩
 | r :: rs, i, ρ, k, h => by
  simp only [matRsS] at h
  obtain ⟨x, ρ1, h1, h⟩ := matRS_elim r h
  obtain ⟨xs, ρ2, h2, h⟩ := matRsS_elim rs h
  exact ⟨_, _, by simp only [matRs, h1, h2], h⟩
theorem Dom.matS_elim {D : Dom} {vs : List AV} {H : Heap} {ρ0 : Rho} {k : D.den → Rho → Prop} (h : D.matS vs H ρ0 k) : ∃ x ρ, D.mat vs H ρ0 = some (x, ρ) ∧ k x ρ := by
 unfold Dom.matS at h
 obtain ⟨xv, l1, ρ1, h1, h⟩ := matVS_elim D.vals h
 split at h
 ·obtain ⟨xr, ρ2, h2, h⟩ := matRsS_elim D.rows h
  split at h
  ·rename_i hc
   simp only [Bool.and_eq_true] at hc
   refine ⟨_, _, ?_, h⟩
   unfold Dom.mat
   simp only [h1, h2]
   rw [if_pos ⟨hc.1.1.1, hc.1.1.2, hc.1.2, hc.2⟩]
  ·exact h.elim
 ·exact h.elim
mutual
def backS (W : Way) : AV → (AV → Prop) → Prop
 | .ptr t none, k => k (.ptr t none)
 | .ptr t (some r), k => match W.to r.g with
  | some (.row g) => k (.ptr t (some ⟨g, r.e, r.z, r.o⟩))
  | some (.win g e z) => match Nat.beq r.z z with
   | true => k (.ptr t (some ⟨g, e + r.e, r.z, r.o⟩))
   | false => False
  | some (.inl t' l) => match Nat.beq r.z t'.z with
   | true => k (.eptr t' l r.e r.o)
   | false => False
  | none => False
 | .slice t none n z, k => k (.slice t none n z)
 | .slice t (some r) n z, k => match W.to r.g with
  | some (.row g) => k (.slice t (some ⟨g, r.e, r.z, r.o⟩) n z)
  | some (.win g e z') => match Nat.beq r.z z' with
   | true => k (.slice t (some ⟨g, e + r.e, r.z, r.o⟩) n z)
   | false => False
  | some (.inl t' l) => match Nat.beq r.z t'.z && Nat.beq r.o 0 && Nat.beq z t'.z with
   | true => need true (r.e + n ≤ l.length) (k (.vec t' ((l.drop r.e).take n)))
   | false => False
  | none => False
 | .agg l, k => backLS W l fun l => k (.agg l)
 | .tup l, k => backLS W l fun l => k (.tup l)
 | .func f a b, k => backLS W a fun a => backLS W b fun b => k (.func f a b)
 | v, k => k v
def backLS (W : Way) : List AV → (List AV → Prop) → Prop
 | [], k => k []
 | v :: l, k => backS W v fun v => backLS W l fun l => k (v :: l)
end
mutual
theorem backS_elim {W : Way} : ∀ {v : AV} {k : AV → Prop}, backS W v k → ∃ v', back W v = some v' ∧ k v'
 | .ptr t none, k, h => by simp only [backS] at h; exact ⟨_, by simp only [back], h⟩
 | .ptr t (some r), k, h => by
  simp only [backS] at h
  split at h
  ·rename_i hd; exact ⟨_, by simp only [back, hd], h⟩
  ·rename_i hd
   split at h
   ·rename_i hz; exact ⟨_, by simp only [back, hd, if_pos (Nat.eq_of_beq_eq_true hz)], h⟩
   ·exact h.elim
  ·rename_i hd
   split at h
   ·rename_i hz; exact ⟨_, by simp only [back, hd, if_pos (Nat.eq_of_beq_eq_true hz)], h⟩
   ·exact h.elim
  ·exact h.elim
 | .slice t none n z, k, h => by simp only [backS] at h; exact ⟨_, by simp only [back], h⟩
 | .slice t (some r) n z, k, h => by
  simp only [backS] at h
  split at h
  ·rename_i hd; exact ⟨_, by simp only [back, hd], h⟩
  ·rename_i hd
   split at h
   ·rename_i hz; exact ⟨_, by simp only [back, hd, if_pos (Nat.eq_of_beq_eq_true hz)], h⟩
   ·exact h.elim
  ·rename_i hd
   split at h
   ·rename_i hc
    simp only [Bool.and_eq_true] at hc
    obtain ⟨h1, h2⟩ := need_elim h
    exact ⟨_, by simp only [back, hd]; rw [if_pos ⟨Nat.eq_of_beq_eq_true hc.1.1, Nat.eq_of_beq_eq_true hc.1.2, Nat.eq_of_beq_eq_true hc.2, h1⟩], h2⟩
   ·exact h.elim
  ·exact h.elim
 | .agg l, k, h => by
  simp only [backS] at h
  obtain ⟨l', hl, hk⟩ := backLS_elim (k := fun l => k (.agg l)) h
  exact ⟨_, by simp only [back, hl, Option.map_some], hk⟩
 | .tup l, k, h => by
  simp only [backS] at h
  obtain ⟨l', hl, hk⟩ := backLS_elim (k := fun l => k (.tup l)) h
  exact ⟨_, by simp only [back, hl, Option.map_some], hk⟩
 | .func f a b, k, h => by
  simp only [backS] at h
  obtain ⟨a', ha, h⟩ := backLS_elim (k := fun a => backLS W b fun b => k (.func f a b)) h
  obtain ⟨b', hb, hk⟩ := backLS_elim (k := fun b => k (.func f a' b)) h
  exact ⟨_, by simp only [back, ha, hb], hk⟩
 | .bool t b, k, h => by simp only [backS] at h; exact ⟨_, by simp only [back], h⟩
 | .int t kd n, k, h => by simp only [backS] at h; exact ⟨_, by simp only [back], h⟩
 | .str t s, k, h => by simp only [backS] at h; exact ⟨_, by simp only [back], h⟩
 | .vec t l, k, h => by simp only [backS] at h; exact ⟨_, by simp only [back], h⟩
 | .eptr t l e o, k, h => by simp only [backS] at h; exact ⟨_, by simp only [back], h⟩
 | .map r, k, h => by simp only [backS] at h; exact ⟨_, by simp only [back], h⟩
 | .nilFunc, k, h => by simp only [backS] at h; exact ⟨_, by simp only [back], h⟩
 | .nilIface, k, h => by simp only [backS] at h; exact ⟨_, by simp only [back], h⟩
theorem backLS_elim {W : Way} : ∀ {v : List AV} {k : List AV → Prop}, backLS W v k → ∃ v', backL W v = some v' ∧ k v'
 | [], k, h => by simp only [backLS] at h; exact ⟨_, by simp only [backL], h⟩
 | x :: l, k, h => by
  simp only [backLS] at h
  obtain ⟨x', hx, h⟩ := backS_elim (k := fun v => backLS W l fun l => k (v :: l)) h
  obtain ⟨l', hl, hk⟩ := backLS_elim (k := fun l => k (x' :: l)) h
  exact ⟨_, by simp only [backL, hx, hl], hk⟩
end
def backOS (W : Way) (o : Option AObj) (k : AObj → Prop) : Prop := match o with
 | none => k .dead
 | some .dead => k .dead
 | some (.cells cs e ro) => backLS W cs fun cs' => k (.cells cs' e ro)
 | some (.vec t l e ro) => k (.vec t l e ro)
 | some (.fro _ _ _) => False
theorem backOS_elim {W : Way} {o : Option AObj} {k : AObj → Prop} (h : backOS W o k) : ∃ o', backO W o = some o' ∧ k o' := by
 unfold backOS at h
 split at h
 ·exact ⟨_, rfl, h⟩
 ·exact ⟨_, rfl, h⟩
 ·obtain ⟨c, hc, hk⟩ := backLS_elim h; exact ⟨_, by simp only [backO, hc, Option.map_some], hk⟩
 ·exact ⟨_, rfl, h⟩
 ·exact h.elim
def backNewS (W : Way) (o : Option AObj) (k : AObj → Prop) : Prop := match o with
 | some (.cells cs e false) => backLS W cs fun cs' => k (.cells cs' e false)
 | some (.vec t l e false) => k (.vec t l e false)
 | some (.cells _ _ true) => False
 | some (.vec _ _ _ true) => False
 | some (.fro _ _ _) => False
 | _ => k .dead
theorem backNewS_elim {W : Way} {o : Option AObj} {k : AObj → Prop} (h : backNewS W o k) : ∃ o', backNew W o = some o' ∧ k o' := by
 unfold backNewS at h
 split at h
 ·obtain ⟨c, hc, hk⟩ := backLS_elim h; exact ⟨_, by simp only [backNew, hc, Option.map_some], hk⟩
 ·exact ⟨_, rfl, h⟩
 ·exact h.elim
 ·exact h.elim
 ·exact h.elim
 ·rename_i h1 h2 h3 h4 h5
  refine ⟨.dead, ?_, h⟩
  unfold backNew
  split
  ·rename_i cs e; exact absurd rfl (h1 cs e)
  ·rename_i t l e; exact absurd rfl (h2 t l e)
  ·rename_i cs e; exact absurd rfl (h3 cs e)
  ·rename_i t l e; exact absurd rfl (h4 t l e)
  ·rename_i t l e; exact absurd rfl (h5 t l e)
  ·rfl
def objsRwS (W : Way) (H1 : Heap) : List (Nat × Nat) → (List (Nat × AObj) → Prop) → Prop
 | [], k => k []
 | (g, i) :: l, k => backOS W (H1.get i) fun o => objsRwS W H1 l fun os => k ((g, o) :: os)
theorem objsRwS_elim {W : Way} {H1 : Heap} : ∀ {l : List (Nat × Nat)} {k : List (Nat × AObj) → Prop}, objsRwS W H1 l k → ∃ L, objsRw W H1 l = some L ∧ k L
 | [], k, h => ⟨[], rfl, h⟩
 | (g, i) :: l, k, h => by
  simp only [objsRwS] at h
  obtain ⟨o, ho, h⟩ := backOS_elim h
  obtain ⟨os, hos, h⟩ := objsRwS_elim h
  exact ⟨_, by simp only [objsRw, ho, hos], h⟩
def objsNewS (W : Way) (H1 : Heap) : List Nat → (List AObj → Prop) → Prop
 | [], k => k []
 | i :: l, k => match roNil W i with
  | true => backOS W (H1.get i) fun o => objsNewS W H1 l fun os => k (o :: os)
  | false => backNewS W (H1.get i) fun o => objsNewS W H1 l fun os => k (o :: os)
theorem objsNewS_elim {W : Way} {H1 : Heap} : ∀ {l : List Nat} {k : List AObj → Prop}, objsNewS W H1 l k → ∃ L, objsNew W H1 l = some L ∧ k L
 | [], k, h => ⟨[], rfl, h⟩
 | i :: l, k, h => by
  simp only [objsNewS] at h
  split at h
  ·rename_i hr
   obtain ⟨o, ho, h⟩ := backOS_elim h
   obtain ⟨os, hos, h⟩ := objsNewS_elim h
   exact ⟨_, by simp only [objsNew, hr, cond_true, ho, hos], h⟩
  ·rename_i hr
   obtain ⟨o, ho, h⟩ := backNewS_elim h
   obtain ⟨os, hos, h⟩ := objsNewS_elim h
   exact ⟨_, by simp only [objsNew, hr, cond_false, ho, hos], h⟩
def backHS (D : Dom) (ρ : Rho) (H H1 : Heap) (k : Heap → Prop) : Prop :=
 objsRwS (wayOf D ρ H H1) H1 (rwRows ρ D.rows 0) fun L => objsNewS (wayOf D ρ H H1) H1 (newRows ρ D.rows.length H1.n) fun NL => k (pushes (setsL H L) NL)
theorem backHS_elim {D : Dom} {ρ : Rho} {H H1 : Heap} {k : Heap → Prop} (h : backHS D ρ H H1 k) : ∃ H', backH D ρ H H1 = some H' ∧ k H' := by
 unfold backHS at h
 obtain ⟨L, hL, h⟩ := objsRwS_elim h
 obtain ⟨NL, hNL, h⟩ := objsNewS_elim h
 refine ⟨_, ?_, h⟩
 unfold backH
 unfold wayOf at hL hNL
 simp only [hL, hNL]
structure Con where
 D : Dom
 A : Dom
 B : Dom := ⟨[], .nil⟩
 pre : D.den → Prop := fun _ => True
 spec : D.den → A.den ⊕ B.den
 use : D.den → (A.den → Prop) → (B.den → Prop) → Prop := fun x ka kb => match spec x with
  | .inl y => ka y
  | .inr y => kb y
 ok : ∀ x ka kb, use x ka kb → (match spec x with
  | .inl y => ka y
  | .inr y => kb y) := by intro x ka kb h; exact h
def Dom.one (D : Dom) (y : D.den) : AV := match D.args y with
 | [v] => v
 | _ => .tup []
def Con.val (C : Con) (x : C.D.den) : AV := match C.spec x with
 | .inl y => C.A.one y
 | .inr y => C.B.one y
def Con.heap (C : Con) (x : C.D.den) : Heap := match C.spec x with
 | .inl y => C.A.heap y
 | .inr y => C.B.heap y
def CallsTo (P : Program) (f : FuncId) (args : List AV) (H : Heap) (v : AV) (H' : Heap) : Prop :=
 ∀ (β : At) (w : World) (cargs : Array Value), Rel β H w → VsRel H.n β args cargs.toList →
  Calls P f cargs w fun e w' => ∃ β' c, e = .returned c ∧ Rel β' H' w' ∧ Le β H w β' H' w' ∧ VRel H'.n β' v c
def ConOk (P : Program) (f : FuncId) (C : Con) : Prop := ∀ x, C.pre x → CallsTo P f (C.D.args x) (C.D.heap x) (C.val x) (C.heap x)
abbrev Book := FuncId → List AV → Option Con
def BookOk (P : Program) (T : Book) : Prop := ∀ f args C, T f args = some C → ConOk P f C
def noDead (D : Dom) : Bool := D.rows.all fun r => !r.dead?
open Classical in
noncomputable def Book.cl (T : Book) : Caller := fun f args H => match T f args with
 | none => none
 | some C => match C.D.mat args H [] with
  | none => none
  | some (x, ρ) => if C.pre x ∧ noDead C.D = true then
    match back (wayOf C.D ρ H (C.heap x)) (C.val x), backH C.D ρ H (C.heap x) with
    | some v, some H' => some (v, H')
    | _, _ => none
   else none
def Book.S (T : Book) : Handler := fun f args H k => match T f args with
 | none => False
 | some C => match noDead C.D with
  | true => C.D.matS args H [] fun x ρ => C.pre x ∧ (C.use x
    (fun y => forceH (C.A.heap y) fun H1 => backS (wayOf C.D ρ H H1) (C.A.one y) fun v => backHS C.D ρ H H1 fun H' => k v H')
    (fun y => forceH (C.B.heap y) fun H1 => backS (wayOf C.D ρ H H1) (C.B.one y) fun v => backHS C.D ρ H H1 fun H' => k v H'))
  | false => False
theorem Book.cls (T : Book) : ClS T.S T.cl := by
 intro f args H k h
 unfold Book.S at h
 unfold Book.cl
 split at h
 ·exact h.elim
 ·rename_i C hC
  split at h
  ·rename_i hnd
   obtain ⟨x, ρ, hm, h⟩ := Dom.matS_elim h
   obtain ⟨hp, h⟩ := h
   have h := C.ok _ _ _ h
   simp only [hm, if_pos (And.intro hp hnd)]
   unfold Con.val Con.heap
   split at h
   ·rename_i y hy
    obtain ⟨v, hv, h⟩ := backS_elim (forceH_elim h)
    obtain ⟨H', hH, h⟩ := backHS_elim h
    simp only [hy, hv, hH]
    exact ⟨v, H', rfl, h⟩
   ·rename_i y hy
    obtain ⟨v, hv, h⟩ := backS_elim (forceH_elim h)
    obtain ⟨H', hH, h⟩ := backHS_elim h
    simp only [hy, hv, hH]
    exact ⟨v, H', rfl, h⟩
  ·exact h.elim
theorem hlt_of {H : Heap} {β : At} {w : World} (hR : Rel β H w) {D : Dom} {x : D.den} {ρ : Rho} {B : Nat → Option Base} {cs : List Value} (hc : Cast D x H β w ρ B cs) : ∀ i r g, D.rows[i]? = some r → r.rw = true → Src.row? (ρ.find i) = some g → g < H.n := by
 intro i r g hr hrw hs
 obtain ⟨s, bs, hs', _, _, _, hm⟩ := hc.row i r hr (live_of_rw hrw)
 rw [hs'] at hs
 rcases hm hrw with ⟨h, _⟩ | ⟨g', c, e, hg', _, hrow⟩
 ·subst h; cases hs
 ·rw [hs] at hg'; cases hg'; exact hR.row_lt hrow
theorem Book.callOk {P : Program} {T : Book} (hT : BookOk P T) : CallOk P T.cl := by
 intro f args H v H' h β w cargs hR ha
 unfold Book.cl at h
 split at h
 ·cases h
 ·rename_i C hC
  split at h
  ·cases h
  ·rename_i x ρ hm
   split at h
   ·rename_i hp
    split at h
    ·rename_i v0 H0 hv hH
     cases h
     obtain ⟨B, hc, _, _⟩ := cast_sound hR hm ha (B0 := fun _ => none) (fun g s hs => by simp [Rho.find] at hs)
     have hnd : ∀ r, r ∈ C.D.rows → r.dead? = false := by
      have := hp.2
      unfold noDead at this
      intro r hr
      simpa using List.all_eq_true.1 this r hr
     refine (hT f args C hC x hp.1 (C.D.at_ β B) w cargs hc.rel (by rw [Dom.heap_n]; exact hc.args)).mono ?_
     rintro e w' ⟨β1, c, rfl, hR1, hLe, hv1⟩
     have hrows := backH_rows hR.fresh hc (hlt_of hR hc) hH
     obtain ⟨q1, q2, q3⟩ := frame_sound hR hc hnd hR1 hLe hrows
     exact ⟨_, c, rfl, q1, q2, q3 _ _ _ hv hv1⟩
    ·cases h
   ·cases h
theorem Book.later (T : Book) : ClLater T.cl := by
 intro f args H v H' h
 unfold Book.cl at h
 split at h
 ·cases h
 ·split at h
  ·cases h
  ·split at h
   ·split at h
    ·rename_i hH
     cases h
     unfold backH at hH
     split at hH
     ·rename_i L NL hL hNL
      cases hH
      have h1 : Later H (setsL H L) := by
       clear hL
       induction L with
       | nil => exact Later.refl _
       | cons p L ih => exact ih.trans (Later.set _ _ _)
      have h2 : ∀ (NL : List AObj) (H0 : Heap), Later H0 (pushes H0 NL) := by
       intro NL
       induction NL with
       | nil => intro H0; exact Later.refl _
       | cons o NL ih => intro H0; exact (Later.push _ _).trans (ih _)
      exact h1.trans (h2 _ _)
     ·cases hH
    ·cases h
   ·cases h
end Go.Vx
end
section
set_option linter.unusedVariables false
set_option linter.unusedSimpArgs false
namespace Go.Vx
def setsT : List Nat → List AV → Trie AV → Trie AV
 | i :: is, v :: vs, t => setsT is vs (t.set i v)
 | _, _, t => t
def tmOf (N : Nat) (live : List Nat) (vs : List AV) : Tm := { n := N, t := setsT live vs .leaf }
def valsOf (m : Tm) : List Nat → Option (List AV)
 | [] => some []
 | i :: l => match m.get i, valsOf m l with
  | some v, some vs => some (v :: vs)
  | _, _ => none
def setsK : List Nat → List AV → Trie AV → (Trie AV → Prop) → Prop
 | i :: is, v :: vs, t, k => setK (i + 1) t i v fun t => setsK is vs t k
 | [], _, t, k => k t
 | _ :: _, [], t, k => k t
theorem setsK_elim : ∀ {is : List Nat} {vs : List AV} {t : Trie AV} {k : Trie AV → Prop}, setsK is vs t k → k (setsT is vs t)
 | i :: is, v :: vs, t, k, h => by
  simp only [setsK] at h
  have := setK_elim h
  simp only [setsT]
  exact setsK_elim this
 | [], vs, t, k, h => by cases vs <;> simpa only [setsK, setsT] using h
 | _ :: _, [], t, k, h => by simpa only [setsK, setsT] using h
theorem valsOf_rel {N : Nat} {β : At} {m : Tm} {tmps : Array Value} (hT : TRel N β m tmps) : ∀ {l : List Nat} {vs : List AV}, valsOf m l = some vs → ∃ cs : List Value, VsRel N β vs cs ∧ cs.length = l.length ∧ ∀ (j i : Nat), l[j]? = some i → tmps[i]? = cs[j]?
 | [], vs, h => by simp only [valsOf, Option.some.injEq] at h; subst h; exact ⟨[], .nil, rfl, fun j i h => by simp at h⟩
 | i :: l, vs, h => by
  simp only [valsOf] at h
  split at h
  ·rename_i v vs' h1 h2
   cases h
   obtain ⟨c, hc, hr⟩ := hT.2 i v h1
   obtain ⟨cs, hcs, hl, hg⟩ := valsOf_rel hT h2
   refine ⟨c :: cs, .cons _ _ _ _ hr hcs, by simp [hl], fun j i' hj => ?_⟩
   cases j with
   | zero => simp at hj; subst hj; simpa using hc
   | succ j => simpa using hg j i' (by simpa using hj)
  ·cases h
theorem setsT_get : ∀ (is : List Nat) (vs : List AV) (t : Trie AV) (i : Nat) (v : AV), (setsT is vs t).get i = some v → (∃ j : Nat, is[j]? = some i ∧ vs[j]? = some v) ∨ t.get i = some v
 | [], vs, t, i, v, h => by cases vs <;> exact .inr h
 | _ :: _, [], t, i, v, h => .inr h
 | i0 :: is, v0 :: vs, t, i, v, h => by
  simp only [setsT] at h
  rcases setsT_get is vs _ i v h with ⟨j, h1, h2⟩ | h1
  ·exact .inl ⟨j + 1, by simpa using h1, by simpa using h2⟩
  ·rw [Trie.get_set] at h1
   split at h1
   ·rename_i e; cases h1; exact .inl ⟨0, by simp [e], by simp⟩
   ·exact .inr h1
theorem tmOf_rel {N n : Nat} {β : At} {tmps : Array Value} {live : List Nat} {vs : List AV} {cs : List Value} (hs : tmps.size = n) (hv : VsRel N β vs cs) (hg : ∀ (j i : Nat), live[j]? = some i → tmps[i]? = cs[j]?) : TRel N β (tmOf n live vs) tmps := by
 refine ⟨hs, fun i v h => ?_⟩
 unfold tmOf Tm.get at h
 simp only at h
 rcases setsT_get _ _ _ _ _ h with ⟨j, h1, h2⟩ | h1
 ·obtain ⟨c, hc, hr⟩ := hv.at j v h2
  exact ⟨c, by rw [hg j i h1]; exact hc, hr⟩
 ·rw [Trie.get_leaf] at h1; cases h1
def View' (D : Dom) (live : List Nat) (K : Nat) (m : Tm) (H : Heap) (k : D.den → Prop) : Prop :=
 match Nat.ble K D.rows.length with
 | true => must (valsOf m live) fun vs => D.matS vs H (keepK K) fun x _ => k x
 | false => False
theorem view_sound {D : Dom} {live : List Nat} {K : Nat} {m : Tm} {H : Heap} {k : D.den → Prop} (h : View' D live K m H k) {β : At} {w : World} (hR : Rel β H w) {S : Start} (hSK : S.H.n = K) (hS : S.le β H w) {tmps : Array Value} (hT : TRel H.n β m tmps) :
  ∃ x, k x ∧ ∃ β1, Rel β1 (D.heap x) w ∧ S.le β1 (D.heap x) w ∧ TRel (D.heap x).n β1 (tmOf m.n live (D.args x)) tmps := by
 unfold View' at h
 split at h
 ·rename_i hK
  obtain ⟨vs, hvs, h⟩ := must_elim h
  obtain ⟨x, ρ, hm, hk⟩ := Dom.matS_elim h
  obtain ⟨cs, hcs, _, hg⟩ := valsOf_rel hT hvs
  obtain ⟨β1, q1, q2, q3⟩ := recast hR hm (Nat.le_of_ble_eq_true hK) hcs hSK hS
  exact ⟨x, hk, β1, q1, q2, tmOf_rel hT.1 q3 hg⟩
 ·exact h.elim
def firstId : Code → Option Nat
 | .region id _ _ => some id
 | .seq a b => match firstId a with
  | some i => some i
  | none => firstId b
 | .cond _ a b => match firstId a with
  | some i => some i
  | none => firstId b
 | .block _ b => firstId b
 | .loop b => firstId b
 | _ => none
def isLoop (id : Nat) (b : Code) : Bool := match firstId b with
 | some i => Nat.beq i id
 | none => false
def loopsOf (c : Code) (id : Nat) : List Code := (loops c).filter (isLoop id)
def loopAt (c : Code) (id : Nat) : Code := match loopsOf c id with
 | [b] => b
 | _ => .skip
def oneLoop (c : Code) (id : Nat) : Bool := match loopsOf c id with
 | [_] => true
 | _ => false
theorem oneLoop_spec {c : Code} {id : Nat} (h : oneLoop c id = true) : loopsOf c id = [loopAt c id] := by
 unfold oneLoop at h
 unfold loopAt
 cases e : loopsOf c id with
 | nil => rw [e] at h; cases h
 | cons b t =>
  cases t with
  | nil => rfl
  | cons b' t => rw [e] at h; cases h
structure Lap where
 id : Nat
 N : Nat
 live : List Nat
 D : Dom
 oA : Out
 liveA : List Nat
 A : Dom
 oB : Out := .ret
 liveB : List Nat := []
 B : Dom := ⟨[], .nil⟩
 inv : D.den → Prop := fun _ => True
 /-- What may come out, at the one end, at the other. -/
 relA : D.den → A.den → Prop
 relB : D.den → B.den → Prop := fun _ _ => False
 use : D.den → (A.den → Prop) → (B.den → Prop) → Prop := fun x ka _ => ∀ y, relA x y → ka y
 ok : ∀ x ka kb, use x ka kb → (∀ y, relA x y → ka y) ∧ (∀ y, relB x y → kb y) := by intro x ka kb h; exact ⟨h, fun y hy => hy.elim⟩
def Lap.tm (l : Lap) (x : l.D.den) : Tm := tmOf l.N l.live (l.D.args x)
def Lap.tmA (l : Lap) (y : l.A.den) : Tm := tmOf l.N l.liveA (l.A.args y)
def Lap.tmB (l : Lap) (y : l.B.den) : Tm := tmOf l.N l.liveB (l.B.args y)
def Lap.behind (l : Lap) (x : l.D.den) (k : Out → Tm → Heap → Prop) : Prop :=
 (∀ y, l.relA x y → k l.oA (l.tmA y) (l.A.heap y)) ∧ ∀ y, l.relB x y → k l.oB (l.tmB y) (l.B.heap y)
def endT (o : Out) (N : Nat) (live : List Nat) (D : Dom) (k : Out → Tm → Heap → Prop) (y : D.den) : Prop :=
 forceL (D.args y) fun vs => setsK live vs .leaf fun t => forceH (D.heap y) fun H => k o ⟨N, t⟩ H
theorem endT_elim {o : Out} {N : Nat} {live : List Nat} {D : Dom} {k : Out → Tm → Heap → Prop} {y : D.den} (h : endT o N live D k y) : k o (tmOf N live (D.args y)) (D.heap y) := by
 unfold endT at h
 exact forceH_elim (setsK_elim (forceL_elim h))
def Lap.L (l : Lap) (K : Nat) (m : Tm) (H : Heap) (k : Out → Tm → Heap → Prop) : Prop :=
 match Nat.beq m.n l.N with
 | true => View' l.D l.live K m H fun x => l.inv x ∧ l.use x (endT l.oA l.N l.liveA l.A k) (endT l.oB l.N l.liveB l.B k)
 | false => False
def LapOk (P : Program) (K : Nat) (c : Code) (l : Lap) : Prop :=
 ∀ S : Start, S.H.n = K → ∀ x, l.inv x → ∀ k, l.behind x k → GoodIn P S (loopAt c l.id) (l.tm x) (l.D.heap x) k
def lapsL (K : Nat) : List Lap → LoopH
 | [], _, _, _, _ => none
 | l :: ls, b, m, H, k => match isLoop l.id b with
  | true => some (l.L K m H k)
  | false => lapsL K ls b m H k
theorem Wants.mono {S : Start} {d : Act} {k k' : Out → Tm → Heap → Prop} {Q : Exit → Act → World → Prop} (h : Wants S d k Q) (hk : ∀ o m H, k' o m H → k o m H) : Wants S d k' Q := fun o m H hq => h o m H (hk o m H hq)
theorem laps_ok {P : Program} {K : Nat} {c : Code} : ∀ {ls : List Lap}, (∀ l, l ∈ ls → LapOk P K c l ∧ oneLoop c l.id = true) → LInOk P K (loops c) (lapsL K ls)
 | [], _, S, hSK, b, hb, m, H, k, p, hp, h => by simp only [lapsL] at hp; cases hp
 | l :: ls, hls, S, hSK, b, hb, m, H, k, p, hp, h => by
  simp only [lapsL] at hp
  split at hp
  ·rename_i hi
   cases hp
   obtain ⟨hl, h1⟩ := hls l (by simp)
   have hbl : loopAt c l.id = b := by
    have hm : b ∈ loopsOf c l.id := List.mem_filter.2 ⟨hb, hi⟩
    rw [oneLoop_spec h1] at hm
    simp at hm
    exact hm.symm
   rw [← hbl]
   unfold Lap.L at h
   split at h
   ·rename_i hn
    have hn := Nat.eq_of_beq_eq_true hn
    intro a β w hR hS hT Q hQ
    obtain ⟨x, ⟨hinv, hu⟩, β1, q1, q2, q3⟩ := view_sound h hR hSK hS hT
    rw [hn] at q3
    refine hl S hSK x hinv k ?_ a β1 w q1 q2 q3 Q hQ
    have := l.ok _ _ _ hu
    exact ⟨fun y hy => endT_elim (this.1 y hy), fun y hy => endT_elim (this.2 y hy)⟩
   ·exact h.elim
  ·exact laps_ok (fun l hl => hls l (by simp [hl])) S hSK b hb m H k p hp h
def Lap.round (l : Lap) (K : Nat) (again : l.D.den → Prop) (qa : l.A.den → Prop) (qb : l.B.den → Prop) : Out → Tm → Heap → Prop := fun o m H =>
 match o with
 | .norm => match Nat.beq m.n l.N with
  | true => View' l.D l.live K m H again
  | false => False
 | o => match Nat.beq m.n l.N with
  | true => bif outEq o l.oA then View' l.A l.liveA K m H qa else bif outEq o l.oB then View' l.B l.liveB K m H qb else False
  | false => False
where outEq : Out → Out → Bool
 | .norm, .norm => true
 | .ret, .ret => true
 | .exit i, .exit j => Nat.beq i j
 | _, _ => false
theorem outEq_eq {a b : Out} (h : Lap.round.outEq a b = true) : a = b := by
 unfold Lap.round.outEq at h
 split at h
 ·rfl
 ·rfl
 ·rw [Nat.eq_of_beq_eq_true h]
 ·cases h
def HOk (P : Program) (S : Handler) : Prop := ∃ cl, ClS S cl ∧ CallOk P cl ∧ ClLater cl
theorem BookOk.hok {P : Program} {T : Book} (hT : BookOk P T) : HOk P T.S := ⟨T.cl, T.cls, T.callOk hT, T.later⟩
theorem lap_ok {P : Program} (hm : P.follows .mixedOrders = true) {S0 : Handler} (hS0 : HOk P S0) {K : Nat} {c : Code} {l : Lap} {ls : List Lap} (hls : ∀ l, l ∈ ls → LapOk P K c l ∧ oneLoop c l.id = true) (h1 : oneLoop c l.id = true) (hC : codeOk P (loopAt c l.id) = true) (n : Nat) (μ : l.D.den → Nat)
  (h : ∀ x, l.inv x → execS P S0 S0 (lapsL K ls) n (loopAt c l.id) (l.tm x) (l.D.heap x) (l.round K (fun x' => l.inv x' ∧ μ x' < μ x ∧ (∀ y, l.relA x' y → l.relA x y) ∧ ∀ y, l.relB x' y → l.relB x y) (l.relA x) (l.relB x))) : LapOk P K c l := by
 have hsub : ∀ b, b ∈ loops (loopAt c l.id) → b ∈ loops c := by
  have hb : loopAt c l.id ∈ loops c := by
   have : loopAt c l.id ∈ loopsOf c l.id := by rw [oneLoop_spec h1]; simp
   exact (List.mem_filter.1 this).1
  have key : ∀ (c : Code) (b : Code), b ∈ loops c → ∀ b', b' ∈ loops b → b' ∈ loops c := by
   intro c
   induction c with
   | seq x y ihx ihy =>
    intro b hb b' hb'
    simp only [loops, List.mem_append] at hb ⊢
    rcases hb with hb | hb
    ·exact .inl (ihx b hb b' hb')
    ·exact .inr (ihy b hb b' hb')
   | cond q x y ihx ihy =>
    intro b hb b' hb'
    simp only [loops, List.mem_append] at hb ⊢
    rcases hb with hb | hb
    ·exact .inl (ihx b hb b' hb')
    ·exact .inr (ihy b hb b' hb')
   | block id x ih => intro b hb b' hb'; exact ih b hb b' hb'
   | loop x ih =>
    intro b hb b' hb'
    simp only [loops, List.mem_cons] at hb ⊢
    rcases hb with rfl | hb
    ·exact .inr hb'
    ·exact .inr (ih b hb b' hb')
   | _ => intro b hb; simp [loops] at hb
  exact fun b hb' => key c _ hb b hb'
 intro S hSK x
 generalize hμ : μ x = N
 induction N using Nat.strongRecOn generalizing x with
 | ind N ih =>
  intro hinv k hk a β w hR hS hT' Q hQ
  subst hμ
  obtain ⟨cl, q1, q2, q3⟩ := hS0
  refine inLoop_round ((execS_good hm (SOk.of_cl q1 q2) q1 q2 q3 (laps_ok hls) hSK n).1 _ hC hsub (h x hinv) a β w hR hS hT' _ fun o m' H' hq β' a' w' hR' hS' hT2 hd' => ?_)
  unfold Lap.round at hq
  cases o with
  | norm =>
   simp only at hq
   split at hq
   ·rename_i hn
    obtain ⟨x', ⟨hinv', hlt, hsA, hsB⟩, β1, q1, q2, q3⟩ := view_sound hq hR' hSK hS' hT2
    rw [Nat.eq_of_beq_eq_true hn] at q3
    exact ih (μ x') hlt x' rfl hinv' k ⟨fun y hy => hk.1 y (hsA y hy), fun y hy => hk.2 y (hsB y hy)⟩ a' β1 w' q1 q2 q3 Q (hQ.defers hd')
   ·exact hq.elim
  | exit id =>
   simp only at hq
   split at hq
   ·rename_i hn
    cases e1 : Lap.round.outEq (.exit id) l.oA with
    | true =>
     rw [e1] at hq
     obtain ⟨y, hy, β1, q1, q2, q3⟩ := view_sound hq hR' hSK hS' hT2
     rw [Nat.eq_of_beq_eq_true hn] at q3
     have := hQ l.oA (l.tmA y) (l.A.heap y) (hk.1 y hy) β1 a' w' q1 q2 q3 hd'
     rw [← outEq_eq e1] at this
     exact this
    | false =>
     rw [e1] at hq
     cases e2 : Lap.round.outEq (.exit id) l.oB with
     | true =>
      rw [e2] at hq
      obtain ⟨y, hy, β1, q1, q2, q3⟩ := view_sound hq hR' hSK hS' hT2
      rw [Nat.eq_of_beq_eq_true hn] at q3
      have := hQ l.oB (l.tmB y) (l.B.heap y) (hk.2 y hy) β1 a' w' q1 q2 q3 hd'
      rw [← outEq_eq e2] at this
      exact this
     | false => rw [e2] at hq; exact hq.elim
   ·exact hq.elim
  | ret =>
   simp only at hq
   split at hq
   ·rename_i hn
    cases e1 : Lap.round.outEq .ret l.oA with
    | true =>
     rw [e1] at hq
     obtain ⟨y, hy, β1, q1, q2, q3⟩ := view_sound hq hR' hSK hS' hT2
     rw [Nat.eq_of_beq_eq_true hn] at q3
     have := hQ l.oA (l.tmA y) (l.A.heap y) (hk.1 y hy) β1 a' w' q1 q2 q3 hd'
     rw [← outEq_eq e1] at this
     exact this
    | false =>
     rw [e1] at hq
     cases e2 : Lap.round.outEq .ret l.oB with
     | true =>
      rw [e2] at hq
      obtain ⟨y, hy, β1, q1, q2, q3⟩ := view_sound hq hR' hSK hS' hT2
      rw [Nat.eq_of_beq_eq_true hn] at q3
      have := hQ l.oB (l.tmB y) (l.B.heap y) (hk.2 y hy) β1 a' w' q1 q2 q3 hd'
      rw [← outEq_eq e2] at this
      exact this
     | false => rw [e2] at hq; exact hq.elim
   ·exact hq.elim
def endC (K : Nat) (sel : AV → Bool) (A B : Dom) (qa : A.den → Prop) (qb : B.den → Prop) : AV → Heap → Prop := fun v H =>
 match sel v with
 | true => match Nat.ble K A.rows.length with
  | true => A.matS [v] H (keepK K) fun y _ => qa y
  | false => False
 | false => match Nat.ble K B.rows.length with
  | true => B.matS [v] H (keepK K) fun y _ => qb y
  | false => False
theorem con_ok {P : Program} (hm : P.follows .mixedOrders = true) {S0 : Handler} (hS0 : HOk P S0) {f : FuncId} {fn : Func} {c : Code} (hf : P.funcs[f]? = some fn) (hb : fn.body = some c) (hC : codeOk P c = true) {C : Con} {ls : List Lap} (hls : ∀ l, l ∈ ls → LapOk P C.D.rows.length c l ∧ oneLoop c l.id = true) (n : Nat) (sel : AV → Bool)
  (hA : ∀ y, (C.A.args y).length = 1) (hB : (∀ y, (C.B.args y).length = 1) ∨ ∀ x y, C.pre x → C.spec x ≠ .inr y)
  (h : ∀ x, C.pre x → bodyS P S0 S0 (lapsL C.D.rows.length ls) n fn c (C.D.args x) (C.D.heap x) (endC C.D.rows.length sel C.A C.B (fun y => C.spec x = .inl y) (fun y => C.spec x = .inr y))) : ConOk P f C := by
 intro x hx β w cargs hR ha
 have hLn : (C.D.heap x).n = C.D.rows.length := C.D.heap_n x
 have hL : LInOk P (C.D.heap x).n (loops c) (lapsL C.D.rows.length ls) := by rw [hLn]; exact laps_ok hls
 obtain ⟨cl, q1, q2, q3⟩ := hS0
 refine (bodyS_good hm (SOk.of_cl q1 q2) q1 q2 q3 hf hb hC hL (h x hx) β w cargs hR ha).mono ?_
 rintro e w' ⟨v, H', hk, β', c', rfl, hR', hLe, hv⟩
 have hone : ∀ (D : Dom) (y : D.den), (D.args y).length = 1 → D.args y = [D.one y] := by
  intro D y hy
  unfold Dom.one
  cases h : D.args y with
  | nil => rw [h] at hy; simp at hy
  | cons v l =>
   rw [h] at hy
   have : l = [] := List.length_eq_zero_iff.1 (by simpa using hy)
   subst this
   rfl
 unfold endC at hk
 split at hk
 ·split at hk
  ·rename_i hK
   obtain ⟨y, ρ, hmat, hq⟩ := Dom.matS_elim hk
   obtain ⟨β1, q1, q2, q3⟩ := recast hR' hmat (Nat.le_of_ble_eq_true hK) (.one hv) (S := ⟨β, C.D.heap x, w, hR.fresh⟩) hLn hLe
   have hval : C.val x = C.A.one y := by unfold Con.val; rw [hq]
   have hheap : C.heap x = C.A.heap y := by unfold Con.heap; rw [hq]
   rw [hone C.A y (hA y)] at q3
   refine ⟨β1, c', rfl, by rw [hheap]; exact q1, by rw [hheap]; exact q2, ?_⟩
   rw [hheap, hval]
   cases q3 with
   | cons _ _ _ _ h1 _ => exact h1
  ·exact hk.elim
 ·split at hk
  ·rename_i hK
   obtain ⟨y, ρ, hmat, hq⟩ := Dom.matS_elim hk
   obtain ⟨β1, q1, q2, q3⟩ := recast hR' hmat (Nat.le_of_ble_eq_true hK) (.one hv) (S := ⟨β, C.D.heap x, w, hR.fresh⟩) hLn hLe
   have hval : C.val x = C.B.one y := by unfold Con.val; rw [hq]
   have hheap : C.heap x = C.B.heap y := by unfold Con.heap; rw [hq]
   have hB1 : (C.B.args y).length = 1 := by
    rcases hB with h | h
    ·exact h y
    ·exact absurd hq (h x y hx)
   rw [hone C.B y hB1] at q3
   refine ⟨β1, c', rfl, by rw [hheap]; exact q1, by rw [hheap]; exact q2, ?_⟩
   rw [hheap, hval]
   cases q3 with
   | cons _ _ _ _ h1 _ => exact h1
  ·exact hk.elim
end Go.Vx
end
section
set_option linter.unusedVariables false
set_option linter.unusedSimpArgs false
namespace Go.Vx
section book
variable (P : Program) (T : Book)
noncomputable def clB : Nat → Caller
 | 0 => T.cl
 | n + 1 => fun f args H => match T f args with
  | some _ => T.cl f args H
  | none => match P.funcs[f]? with
   | some fn => match fn.body with
    | some c => bodyA P (clB n) 60 fn c args H
    | none => none
   | none => none
def bookS : Nat → Handler
 | 0 => T.S
 | n + 1 => fun f args H k => match T f args with
  | some _ => T.S f args H k
  | none => match P.funcs[f]? with
   | some fn => match fn.body with
    | some c => match codePl P c with
     | true => bodyS P (bookS n) (bookS n) (fun _ _ _ _ => none) 60 fn c args H k
     | false => False
    | none => False
   | none => False
end book
section sound
variable {P : Program} {T : Book}
theorem clB_sound (hm : P.follows .mixedOrders = true) (hT : BookOk P T) : ∀ n, CallOk P (clB P T n)
 | 0 => T.callOk hT
 | n + 1 => fun f args H v H' h => by
  simp only [clB] at h
  split at h
  ·exact T.callOk hT f args H v H' h
  ·split at h
   ·rename_i fn hf
    split at h
    ·rename_i c hb
     exact fun β w cargs hR ha => body_sound hm (clB_sound hm hT n) hf hb h hR ha
    ·cases h
   ·cases h
theorem clB_later : ∀ n, ClLater (clB P T n)
 | 0 => T.later
 | n + 1 => fun f args H v H' h => by
  simp only [clB] at h
  split at h
  ·exact T.later f args H v H' h
  ·split at h
   ·split at h
    ·unfold bodyA at h
     split at h
     ·split at h
      ·rename_i m H1 he
       obtain ⟨_, _, he2⟩ := map_some h
       simp only [Prod.mk.injEq] at he2
       rw [← he2.2]
       exact execA_later (clB_later n) 60 _ he
      ·rename_i m H1 he
       obtain ⟨_, _, he2⟩ := map_some h
       simp only [Prod.mk.injEq] at he2
       rw [← he2.2]
       exact execA_later (clB_later n) 60 _ he
      ·cases h
     ·cases h
    ·cases h
   ·cases h
theorem bookS_run : ∀ n, ClS (bookS P T n) (clB P T n)
 | 0 => T.cls
 | n + 1 => fun f args H k h => by
  simp only [bookS] at h
  simp only [clB]
  split at h
  ·rename_i C hC
   exact T.cls f args H k h
  ·split at h
   ·rename_i fn hf
    split at h
    ·rename_i c hc
     split at h
     ·rename_i hpl
      unfold bodyS at h
      split at h
      ·exact h.elim
      ·rename_i hl
       obtain ⟨o, m, H', he, h⟩ := execS_run (bookS_run n) (clB_later n) 60 c hpl h
       have hle : args.length ≤ fn.ntmps := Nat.le_of_ble_eq_true hl
       cases o with
       | norm =>
        obtain ⟨l, hr, hk⟩ := must_elim h
        exact ⟨_, _, by simp only [bodyA, if_pos hle, he, hr, Option.map_some], hk⟩
       | ret =>
        obtain ⟨l, hr, hk⟩ := must_elim h
        exact ⟨_, _, by simp only [bodyA, if_pos hle, he, hr, Option.map_some], hk⟩
       | exit id => exact h.elim
     ·exact h.elim
    ·exact h.elim
   ·exact h.elim
theorem bookS_ok (hm : P.follows .mixedOrders = true) (hT : BookOk P T) (n : Nat) : HOk P (bookS P T n) := ⟨clB P T n, bookS_run n, clB_sound hm hT n, clB_later n⟩
end sound
noncomputable def fnOf (P : Program) (f : Nat) : Func := (P.funcs[f]?).getD default
noncomputable def codeOf (P : Program) (f : Nat) : Code := match (fnOf P f).body with
 | some c => c
 | none => .skip
def isFn (P : Program) (f : Nat) : Bool := match P.funcs[f]? with
 | some fn => fn.body.isSome
 | none => false
theorem isFn_spec {P : Program} {f : Nat} (h : isFn P f = true) : P.funcs[f]? = some (fnOf P f) ∧ (fnOf P f).body = some (codeOf P f) := by
 unfold isFn at h
 unfold codeOf
 split at h
 ·rename_i fn hf
  have e : fnOf P f = fn := by unfold fnOf; rw [hf]; rfl
  rw [e]
  refine ⟨hf, ?_⟩
  cases hb : fn.body with
  | none => rw [hb] at h; cases h
  | some c => rfl
 ·cases h
theorem codeOk_of {P : Program} (hP : progOk P = true) {f : Nat} (h : isFn P f = true) : codeOk P (codeOf P f) = true := fn_ok hP (isFn_spec h).1 (isFn_spec h).2
theorem codeOk_loops {P : Program} : ∀ {c b : Code}, codeOk P c = true → b ∈ loops c → codeOk P b = true := by
 intro c
 induction c with
 | seq x y ihx ihy =>
  intro b hc hb
  simp only [codeOk, Bool.and_eq_true] at hc
  simp only [loops, List.mem_append] at hb
  rcases hb with hb | hb
  ·exact ihx hc.1 hb
  ·exact ihy hc.2 hb
 | cond q x y ihx ihy =>
  intro b hc hb
  simp only [codeOk, Bool.and_eq_true] at hc
  simp only [loops, List.mem_append] at hb
  rcases hb with hb | hb
  ·exact ihx hc.1 hb
  ·exact ihy hc.2 hb
 | block id x ih => intro b hc hb; exact ih (by simpa only [codeOk] using hc) hb
 | loop x ih =>
  intro b hc hb
  have hc : codeOk P x = true := by simpa only [codeOk] using hc
  simp only [loops, List.mem_cons] at hb
  rcases hb with rfl | hb
  ·exact hc
  ·exact ih hc hb
 | _ => intro b hc hb; simp [loops] at hb
def Con.run (P : Program) (T : Book) (d : Nat) (ls : List Lap) (f : Nat) (C : Con) (sel : AV → Bool) (x : C.D.den) (qa : C.A.den → Prop) (qb : C.B.den → Prop) : Prop :=
 bodyS P (bookS P T d) (bookS P T d) (lapsL C.D.rows.length ls) 100 (fnOf P f) (codeOf P f) (C.D.args x) (C.D.heap x) (endC C.D.rows.length sel C.A C.B qa qb)
def Lap.run (P : Program) (T : Book) (d K : Nat) (ls : List Lap) (f : Nat) (l : Lap) (x : l.D.den) (again : l.D.den → Prop) (qa : l.A.den → Prop) (qb : l.B.den → Prop) : Prop :=
 execS P (bookS P T d) (bookS P T d) (lapsL K ls) 100 (loopAt (codeOf P f) l.id) (l.tm x) (l.D.heap x) (l.round K again qa qb)
def LapsOk (P : Program) (K f : Nat) (ls : List Lap) : Prop := ∀ l, l ∈ ls → LapOk P K (codeOf P f) l ∧ oneLoop (codeOf P f) l.id = true
theorem LapsOk.nil {P : Program} {K f : Nat} : LapsOk P K f [] := fun l h => by simp at h
theorem LapsOk.cons {P : Program} {K f : Nat} {l : Lap} {ls : List Lap} (h : LapOk P K (codeOf P f) l) (h1 : oneLoop (codeOf P f) l.id = true) (hs : LapsOk P K f ls) : LapsOk P K f (l :: ls) := fun l' hl => by
 rcases List.mem_cons.1 hl with rfl | hl
 ·exact ⟨h, h1⟩
 ·exact hs l' hl
theorem Con.proved {P : Program} (hm : P.follows .mixedOrders = true) (hP : progOk P = true) {T : Book} (hT : BookOk P T) {f : Nat} {C : Con} (hf : isFn P f = true) {ls : List Lap} (hls : LapsOk P C.D.rows.length f ls) (d : Nat) (sel : AV → Bool)
  (hA : ∀ y, (C.A.args y).length = 1) (hB : (∀ y, (C.B.args y).length = 1) ∨ ∀ x y, C.pre x → C.spec x ≠ .inr y)
  (h : ∀ x, C.pre x → C.run P T d ls f sel x (fun y => C.spec x = .inl y) (fun y => C.spec x = .inr y)) : ConOk P f C :=
 con_ok hm (bookS_ok hm hT d) (isFn_spec hf).1 (isFn_spec hf).2 (codeOk_of hP hf) hls 100 sel hA hB h
theorem Lap.proved {P : Program} (hm : P.follows .mixedOrders = true) (hP : progOk P = true) {T : Book} (hT : BookOk P T) {K f : Nat} {l : Lap} (hf : isFn P f = true) (h1 : oneLoop (codeOf P f) l.id = true) {ls : List Lap} (hls : LapsOk P K f ls) (d : Nat) (μ : l.D.den → Nat)
  (h : ∀ x, l.inv x → l.run P T d K ls f x (fun x' => l.inv x' ∧ μ x' < μ x ∧ (∀ y, l.relA x' y → l.relA x y) ∧ ∀ y, l.relB x' y → l.relB x y) (l.relA x) (l.relB x)) : LapOk P K (codeOf P f) l := by
 refine lap_ok hm (bookS_ok hm hT d) hls h1 ?_ 100 μ h
 have : loopAt (codeOf P f) l.id ∈ loopsOf (codeOf P f) l.id := by rw [oneLoop_spec h1]; simp
 exact codeOk_loops (codeOk_of hP hf) (List.mem_filter.1 this).1
def Book.none : Book := fun _ _ => .none
theorem BookOk.none (P : Program) : BookOk P Book.none := fun f args C h => by cases h
def Book.add (T : Book) (f : FuncId) (C : Con) : Book := fun g args => match Nat.beq g f with
 | true => some C
 | false => T g args
theorem BookOk.add {P : Program} {T : Book} (hT : BookOk P T) {f : FuncId} {C : Con} (h : ConOk P f C) : BookOk P (T.add f C) := fun g args C' hC => by
 unfold Book.add at hC
 split at hC
 ·rename_i e; cases hC; rw [Nat.eq_of_beq_eq_true e]; exact h
 ·exact hT g args C' hC
end Go.Vx
end
section
set_option linter.unusedVariables false
set_option linter.unusedSimpArgs false
namespace Go.Vx
open Go.ChangeShapes Go.WideShapes
def wfT : (t : Ty) → t.den → Prop
 | .bool, _ => True
 | .int k, n => (Lit.int k n).wf = true
 | .byte, _ => True
 | .str, s => s.length ≤ maxLen
 | .sl t, l => l.length ≤ maxLen ∧ ∀ x, x ∈ l → wfT t x
 | .unit, _ => True
 | .pair a b, x => wfT a x.1 ∧ wfT b x.2
def wfV : (p : VP) → p.den → Prop
 | .int k, n => (Lit.int k n).wf = true
 | .str, s => s.length ≤ maxLen
 | .vec t, l => l.length ≤ maxLen ∧ ∀ x, x ∈ l → wfT t x
 | .cat a b, x => wfV a x.1 ∧ wfV b x.2
 | .agg l, x => wfV l x
 | .tup l, x => wfV l x
 | _, _ => True
def tyIn (P : Program) : Ty → (TypeId ⊕ (Nat × List Field)) → Bool
 | .bool, .inl t => match P.underlying t with
  | some .bool => true
  | _ => false
 | .int k, .inl t => match P.underlying t with
  | some (.int q) => decide (k = q)
  | _ => false
 | .byte, .inl t => match P.underlying t with
  | some (.int q) => decide (q = .u8)
  | _ => false
 | .str, .inl t => match P.underlying t with
  | some .string => true
  | _ => false
 | .sl T, .inl t => match P.underlying t with
  | some (.slice e) => decide (P.cellsOf e = T.z) && (decide (0 < T.z) && tyIn P T (.inl e))
  | _ => false
 | .unit, .inr (_, []) => true
 | .pair a b, .inl t => match P.underlying t with
  | some (.struct fs) => match fs.toList with
   | f :: fs => decide (P.cellsOf t = a.z + b.z) && (decide (f.offset = 0) && (decide (P.cellsOf f.type = a.z) && (tyIn P a (.inl f.type) && tyIn P b (.inr (a.z, fs)))))
   | [] => false
  | _ => false
 | .pair a b, .inr (off, f :: fs) => decide (f.offset = off) && (decide (P.cellsOf f.type = a.z) && (tyIn P a (.inl f.type) && tyIn P b (.inr (off + a.z, fs))))
 | _, _ => false
theorem list_of {α : Type} {p : Nat → α → Prop} : ∀ n : Nat, (∀ i, i < n → ∃ x, p i x) → ∃ l : List α, l.length = n ∧ ∀ i x, l[i]? = some x → p i x
 | 0, _ => ⟨[], rfl, fun i x h => by simp at h⟩
 | n + 1, h => by
  obtain ⟨l, hl, hp⟩ := list_of n fun i hi => h i (by omega)
  obtain ⟨x, hx⟩ := h n (by omega)
  refine ⟨l ++ [x], by simp [hl], fun i y hy => ?_⟩
  by_cases hi : i < n
  ·exact hp i y (by rwa [List.getElem?_append_left (by omega)] at hy)
  ·rw [List.getElem?_append_right (by omega), hl] at hy
   have : i = n := by
    have := (List.getElem?_eq_some_iff.1 hy).1
    simp at this; omega
   subst this
   simp at hy
   subst hy
   exact hx
theorem cells_at {w : World} {base : Nat} {a : Addr} {n : Nat} {cs : List Value} (h : w.cells? base a n = some cs) : cs.length = n ∧ ∀ i c, cs[i]? = some c → w.cell? ⟨a.block, a.off + i, none⟩ = some c := by
 unfold World.cells? at h
 split at h
 ·refine ⟨by simpa using mapM_some_length h, fun i c hc => ?_⟩
  have hi : i < n := by
   have := mapM_some_length h
   simp at this
   have := (List.getElem?_eq_some_iff.1 hc).1
   omega
  have := mapM_some_get h i i (by simp [hi])
  rw [hc] at this
  unfold Addr.add at this
  split at this
  ·rename_i e; subst e
   unfold World.cell? at this ⊢
   split at this
   ·split at this
    ·cases this
    ·rename_i h1 h2; simp only [h1]; simpa using this
   ·cases this
  ·exact this
 ·cases h
def Sees (β : At) (w : World) : Prop := ∀ b o c, w.cell? ⟨b, o, none⟩ = some c → β.imm b o = some c
section reads
variable {H : Type} {en : TypeId × Value → H} {P : Program} {w : World} {base : Nat} {sp : Nat → Bool} {hd : Bool}
theorem take_add_drop {α : Type} (cs : List α) (o x y : Nat) : (cs.drop o).take x ++ (cs.drop (o + x)).take y = (cs.drop o).take (x + y) := by
 rw [← List.drop_drop, List.take_add]
theorem read_ty : (T : Ty) →
  (∀ (t : TypeId) (cs : List Value) (fuel : Nat) (x : DataW H × List MemPlace), tyIn P T (.inl t) = true → DataW.trod en P w base sp hd fuel t cs = some x →
   ∃ d : T.den, wfT T d ∧ ∀ N β, Sees β w → VsRel N β (enc T d) cs) ∧
  (∀ (off : Nat) (fs : List Field) (cs : List Value) (n : Nat), tyIn P T (.inr (off, fs)) = true →
   (∀ f, f ∈ fs → ∃ x, DataW.trod en P w base sp hd n f.type ((cs.drop f.offset).take (P.cellsOf f.type)) = some x) →
   ∃ d : T.den, wfT T d ∧ ∀ N β, Sees β w → VsRel N β (enc T d) ((cs.drop off).take T.z))
 | .bool => ⟨fun t cs fuel x ht h => by
   simp only [tyIn] at ht
   split at ht
   ·rename_i hu
    obtain ⟨b, rfl, _⟩ := DataW.trod_bool hu h
    exact ⟨b, trivial, fun N β _ => .one (.bool _ _)⟩
   ·exact (Bool.false_ne_true ht).elim, fun off fs cs n ht => by simp [tyIn] at ht⟩
 | .int k => ⟨fun t cs fuel x ht h => by
   simp only [tyIn] at ht
   split at ht
   ·rename_i q hu
    have hq := of_decide_eq_true ht
    subst hq
    obtain ⟨n, rfl, _, hw⟩ := DataW.trod_int hu h
    exact ⟨n, hw, fun N β _ => .one (.int _ _ _)⟩
   ·exact (Bool.false_ne_true ht).elim, fun off fs cs n ht => by simp [tyIn] at ht⟩
 | .byte => ⟨fun t cs fuel x ht h => by
   simp only [tyIn] at ht
   split at ht
   ·rename_i q hu
    have hq := of_decide_eq_true ht
    subst hq
    obtain ⟨n, rfl, _, hw⟩ := DataW.trod_int hu h
    simp only [Lit.wf, Bool.and_eq_true, decide_eq_true_eq, IntKind.min, IntKind.max, IntKind.signed, IntKind.bits] at hw
    have h0 : 0 ≤ n := by simpa using hw.1
    have h1 : n < 256 := by have := hw.2; simp at this; omega
    refine ⟨UInt8.ofNat n.toNat, trivial, fun N β _ => ?_⟩
    have : n = ((UInt8.ofNat n.toNat).toNat : Int) := by simp [UInt8.toNat_ofNat']; omega
    conv => rhs; rw [this]
    exact .one (.int _ _ _)
   ·exact (Bool.false_ne_true ht).elim, fun off fs cs n ht => by simp [tyIn] at ht⟩
 | .str => ⟨fun t cs fuel x ht h => by
   simp only [tyIn] at ht
   split at ht
   ·rename_i hu
    obtain ⟨s, rfl, _, hw⟩ := DataW.trod_string hu h
    exact ⟨s.data.toList, (by show s.data.toList.length ≤ maxLen; simpa using hw), fun N β _ => .one (.str _ _ _ rfl)⟩
   ·exact (Bool.false_ne_true ht).elim, fun off fs cs n ht => by simp [tyIn] at ht⟩
 | .sl T => ⟨fun t cs fuel x ht h => by
   simp only [tyIn] at ht
   split at ht
   ·rename_i e hu
    simp only [Bool.and_eq_true, decide_eq_true_eq] at ht
    obtain ⟨hz, hz0, ht⟩ := ht
    rcases DataW.trod_slice hu h with ⟨rfl, _⟩ | ⟨a, len, cap, elems, rest, n, _, rfl, _, _, hl, hc, hlen, hel, _, _⟩
    ·refine ⟨[], ⟨by simp, fun x hx => by simp at hx⟩, fun N β _ => .one ?_⟩
     exact .vec T [] 0 none 0 0 (fun _ => .nilIface) (by simp) ⟨fun h => by simp at h, fun _ => rfl⟩ (fun k v h => by simp [encL] at h) (fun k v h => by simp [encL] at h)
    ·have hex : ∀ i, i < len → ∃ d : T.den, ∃ cs, w.cells? base (a.add (i * T.z)) T.z = some cs ∧ wfT T d ∧ ∀ N β, Sees β w → VsRel N β (enc T d) cs := fun i hi => by
      have h1 := hel i hi
      rw [hz, List.getElem?_eq_getElem (by omega)] at h1
      simp only [Option.bind_eq_some_iff] at h1
      obtain ⟨cs, hcs, h1⟩ := h1
      obtain ⟨d, hd1, hd2⟩ := (read_ty T).1 e cs n _ ht h1
      exact ⟨d, cs, hcs, hd1, hd2⟩
     obtain ⟨l, hll, hl'⟩ := list_of len hex
     subst hll
     refine ⟨l, ⟨by omega, fun x hx => ?_⟩, fun N β hs => .one ?_⟩
     ·obtain ⟨i, hi⟩ := List.getElem?_of_mem hx
      obtain ⟨_, _, h, _⟩ := hl' i x hi
      exact h
     ·have key : ∀ k v, (encL T l)[k]? = some v → ∃ c, w.cell? ⟨a.block, a.off + k, none⟩ = some c ∧ VRel N β v c ∧ (k = 0 → a.spot = none) := fun k v hk => by
       have hkl := (List.getElem?_eq_some_iff.1 hk).1
       rw [encL_length] at hkl
       have hi : k / T.z < l.length := Nat.div_lt_of_lt_mul (by rwa [Nat.mul_comm])
       have ho : k % T.z < T.z := Nat.mod_lt _ hz0
       have hk' : k / T.z * T.z + k % T.z = k := by rw [Nat.mul_comm]; exact Nat.div_add_mod _ _
       rw [← hk', encL_get T l _ _ hi ho] at hk
       obtain ⟨cs, hcs, _, hr⟩ := hl' (k / T.z) (l.getD (k / T.z) T.dflt) (by rw [List.getD_eq_getElem?_getD, List.getElem?_eq_getElem hi]; rfl)
       obtain ⟨c, hc, hrel⟩ := (hr N β hs).at _ _ hk
       have hcell := (cells_at hcs).2 _ _ hc
       refine ⟨c, ?_, hrel, fun h0 => ?_⟩
       ·rw [← hk']
        unfold Addr.add at hcell
        split at hcell
        ·rename_i e; rw [e, Nat.zero_add]; exact hcell
        ·rw [← Nat.add_assoc]; exact hcell
       ·subst h0
        have hd0 : (0 : Nat) / T.z = 0 := Nat.zero_div _
        rw [hd0, Nat.zero_mul] at hcs
        unfold World.cells? at hcs
        split at hcs
        ·have h0 := mapM_some_get hcs 0 0 (List.getElem?_range hz0)
         have hl0 := mapM_some_length hcs
         simp at hl0
         rw [List.getElem?_eq_getElem (by omega)] at h0
         simp only [Addr.add, if_true] at h0
         unfold World.cell? at h0
         split at h0
         ·split at h0
          ·cases h0
          ·rename_i h2; simpa using h2
         ·cases h0
        ·cases hcs
      refine .vec T l cap (some a) a.block a.off (fun k => (w.cell? ⟨a.block, a.off + k, none⟩).getD .nilIface) hl ⟨fun h0 => ?_, fun h => by cases h⟩ (fun k v hk => ?_) (fun k v hk => ?_)
      ·have : 0 < (encL T l).length := by rw [encL_length]; exact Nat.mul_pos h0 hz0
       obtain ⟨c, _, _, hsp⟩ := key 0 _ (List.getElem?_eq_getElem this)
       have := hsp rfl
       cases a; simp_all
      ·obtain ⟨c, hc, _, _⟩ := key k v hk
       simp only [hc, Option.getD_some]
       exact hs _ _ _ hc
      ·obtain ⟨c, hc, hr, _⟩ := key k v hk
       simp only [hc, Option.getD_some]
       exact hr
   ·exact (Bool.false_ne_true ht).elim, fun off fs cs n ht => by simp [tyIn] at ht⟩
 | .unit => ⟨fun t cs fuel x ht h => by simp [tyIn] at ht, fun off fs cs n ht hf => ⟨(), trivial, fun N β _ => by simpa [Ty.z, enc] using VsRel.nil⟩⟩
 | .pair a b => ⟨fun t cs fuel x ht h => by
   simp only [tyIn] at ht
   split at ht
   ·rename_i fs hu
    split at ht
    ·rename_i f fs' hfs
     simp only [Bool.and_eq_true, decide_eq_true_eq] at ht
     obtain ⟨hz, ho, hfz, ha, hb⟩ := ht
     obtain ⟨xs, n, _, _, hl, hlen, hf⟩ := DataW.trod_struct hu h
     have hall : ∀ g, g ∈ fs.toList → ∃ x, DataW.trod en P w base sp hd n g.type ((cs.drop g.offset).take (P.cellsOf g.type)) = some x := fun g hg => by
      obtain ⟨i, hi⟩ := List.getElem?_of_mem hg
      have hi' : fs[i]? = some g := by simpa using hi
      have := hf i g hi'
      have hlt : i < xs.length := by
       have := (Array.getElem?_eq_some_iff.1 hi').1
       omega
      rw [List.getElem?_eq_getElem hlt] at this
      exact ⟨_, this⟩
     obtain ⟨x0, h0⟩ := hall f (by rw [hfs]; simp)
     obtain ⟨d, hd1, hd2⟩ := (read_ty a).1 f.type _ _ _ ha h0
     obtain ⟨d', hd3, hd4⟩ := (read_ty b).2 a.z fs' cs n hb fun g hg => hall g (by rw [hfs]; simp [hg])
     refine ⟨(d, d'), ⟨hd1, hd3⟩, fun N β hs => ?_⟩
     have := (hd2 N β hs).append (hd4 N β hs)
     rw [ho, hfz] at this
     have e := take_add_drop cs 0 a.z b.z
     rw [Nat.zero_add] at e
     rw [e, List.drop_zero, List.take_of_length_le (by omega)] at this
     exact this
    ·cases ht
   ·exact (Bool.false_ne_true ht).elim, fun off fs cs n ht hf => by
   match fs, ht, hf with
   | f :: fs, ht, hf =>
    simp only [tyIn, Bool.and_eq_true, decide_eq_true_eq] at ht
    obtain ⟨ho, hfz, ha, hb⟩ := ht
    obtain ⟨x0, h0⟩ := hf f (by simp)
    obtain ⟨d, hd1, hd2⟩ := (read_ty a).1 f.type _ _ _ ha h0
    obtain ⟨d', hd3, hd4⟩ := (read_ty b).2 (off + a.z) fs cs n hb fun g hg => hf g (by simp [hg])
    refine ⟨(d, d'), ⟨hd1, hd3⟩, fun N β hs => ?_⟩
    have := (hd2 N β hs).append (hd4 N β hs)
    rw [ho, hfz, take_add_drop] at this
    exact this
   | [], ht, hf => simp [tyIn] at ht⟩
def tyVP : Ty → VP
 | .bool => .bool
 | .int k => .int k
 | .byte => .byte
 | .str => .str
 | .sl t => .vec t
 | .unit => .nil
 | .pair a b => .cat (tyVP a) (tyVP b)
theorem tyVP_of : (T : Ty) → (d : T.den) → wfT T d → ∃ x : (tyVP T).den, wfV (tyVP T) x ∧ ∀ len, encV (tyVP T) x len = enc T d
 | .bool, d, _ => ⟨d, trivial, fun _ => rfl⟩
 | .int k, d, h => ⟨d, h, fun _ => rfl⟩
 | .byte, d, _ => ⟨d, trivial, fun _ => rfl⟩
 | .str, d, h => ⟨d, h, fun _ => rfl⟩
 | .sl t, d, h => ⟨d, h, fun _ => rfl⟩
 | .unit, d, _ => ⟨(), trivial, fun _ => rfl⟩
 | .pair a b, d, h => by
  obtain ⟨x, hx, ex⟩ := tyVP_of a d.1 h.1
  obtain ⟨y, hy, ey⟩ := tyVP_of b d.2 h.2
  exact ⟨(x, y), ⟨hx, hy⟩, fun len => by simp only [tyVP, encV, enc, ex, ey]⟩
def argVP : Ty → VP
 | .pair a b => .agg (tyVP (.pair a b))
 | T => tyVP T
def parV : List Ty → VP
 | [] => .nil
 | [T] => argVP T
 | T :: Ts => .cat (argVP T) (parV Ts)
theorem read_arg {r : Reach} {b0 : Nat} {T : Ty} {t : TypeId} {v : Value} {d : DataW H} {ps : List MemPlace} (hT : tyIn P T (.inl t) = true) (hv : Value.okWide P w r b0 t v) (h : DataW.Trod en P w base sp hd t v d ps) :
  ∃ x : (argVP T).den, wfV (argVP T) x ∧ ∀ N β len, Sees β w → VsRel N β (encV (argVP T) x len) [v] := by
 obtain ⟨fuel, h⟩ := h
 obtain ⟨d', hd', hr⟩ := (read_ty T).1 t _ fuel _ hT h
 obtain ⟨x, hx, ex⟩ := tyVP_of T d' hd'
 cases T with
 | pair a b =>
  simp only [tyIn] at hT
  split at hT
  ·rename_i fs hu
   obtain ⟨cs, rfl, _⟩ := okWide_struct hu hv
   refine ⟨x, hx, fun N β len hs => .one (.agg _ _ ?_)⟩
   have := hr N β hs
   rw [← ex len] at this
   exact this
  ·cases hT
 | unit => simp [tyIn] at hT
 | bool =>
  simp only [tyIn] at hT
  split at hT
  ·rename_i hu
   obtain ⟨b, rfl⟩ := okWide_bool hu hv
   exact ⟨x, hx, fun N β len hs => by have := hr N β hs; rw [← ex len] at this; exact this⟩
  ·cases hT
 | int k =>
  simp only [tyIn] at hT
  split at hT
  ·rename_i q hu
   obtain ⟨b, rfl⟩ := okWide_int hu hv
   exact ⟨x, hx, fun N β len hs => by have := hr N β hs; rw [← ex len] at this; exact this⟩
  ·cases hT
 | byte =>
  simp only [tyIn] at hT
  split at hT
  ·rename_i q hu
   obtain ⟨b, rfl⟩ := okWide_int hu hv
   exact ⟨x, hx, fun N β len hs => by have := hr N β hs; rw [← ex len] at this; exact this⟩
  ·cases hT
 | str =>
  simp only [tyIn] at hT
  split at hT
  ·rename_i hu
   obtain ⟨b, rfl⟩ := okWide_string hu hv
   exact ⟨x, hx, fun N β len hs => by have := hr N β hs; rw [← ex len] at this; exact this⟩
  ·cases hT
 | sl T =>
  simp only [tyIn] at hT
  split at hT
  ·rename_i e hu
   obtain ⟨a, l, c, rfl⟩ := okWide_slice hu hv
   exact ⟨x, hx, fun N β len hs => by have := hr N β hs; rw [← ex len] at this; exact this⟩
  ·cases hT
def parsIn (P : Program) : List TypeId → List Ty → Bool
 | [], [] => true
 | t :: ts, T :: Ts => tyIn P T (.inl t) && parsIn P ts Ts
 | _, _ => false
theorem read_args {r : Reach} {b0 : Nat} : ∀ {ts : List TypeId} {Ts : List Ty} {vs : List Value} {ds : List (DataW H)} {ps : List MemPlace}, parsIn P ts Ts = true →
  (∀ (j : Nat) t v, ts[j]? = some t → vs[j]? = some v → Value.okWide P w r b0 t v) → DataW.TrodAll en P w base sp hd ts vs ds ps →
  ∃ x : (parV Ts).den, wfV (parV Ts) x ∧ ∀ N β len, Sees β w → VsRel N β (encV (parV Ts) x len) vs
 | [], [], vs, ds, ps, _, _, h => by
  obtain ⟨rfl, _, _⟩ := trodAll_nil h
  exact ⟨(), trivial, fun _ _ _ _ => .nil⟩
 | t :: ts, T :: Ts, vs, ds, ps, ht, hv, h => by
  simp only [parsIn, Bool.and_eq_true] at ht
  obtain ⟨v, vs', d, ds', p, q, rfl, _, _, h1, h2⟩ := trodAll_cons h
  obtain ⟨x, hx, hxr⟩ := read_arg ht.1 (hv 0 t v rfl rfl) h1
  obtain ⟨y, hy, hyr⟩ := read_args ht.2 (fun j t' v' h1 h2 => hv (j + 1) t' v' (by simpa using h1) (by simpa using h2)) h2
  cases Ts with
  | nil =>
   cases ts with
   | nil =>
    obtain ⟨rfl, _, _⟩ := trodAll_nil h2
    exact ⟨x, hx, fun N β len hs => hxr N β len hs⟩
   | cons a b => simp [parsIn] at ht
  | cons T' Ts' => exact ⟨(x, y), ⟨hx, hy⟩, fun N β len hs => (hxr N β len hs).append (hyr N β len hs)⟩
 | [], _ :: _, _, _, _, ht, _, _ => by simp [parsIn] at ht
 | _ :: _, [], _, _, _, ht, _, _ => by simp [parsIn] at ht
end reads
theorem Kept.sameAt {w w' : World} (h : Kept w w') {p : MemPlace} (hp : p.block < w.heap.size) : w.sameAt w' p := by
 have hk := h.1.2.2 p.block hp
 cases p with
 | cell b off =>
  show w'.cell? ⟨b, off, none⟩ = w.cell? ⟨b, off, none⟩
  simp only [MemPlace.block] at hk
  unfold World.cell?
  simp only
  split at hk
  ·rename_i c t fr c' t' fr' h1 h2
   rw [h1, h2]
   simp only [Option.isSome_none, Bool.false_eq_true, if_false]
   exact hk.2.2.2 off fun f => f
  ·rename_i h1 h2
   rw [h1, h2]
  ·rw [hk]
 | map b =>
  show w'.heap[b]? = w.heap[b]?
  simp only [MemPlace.block] at hk
  split at hk
  ·rename_i c t fr c' t' fr' h1 h2
   obtain ⟨rfl, rfl, _, he⟩ := hk
   have : c' = c := Array.ext_getElem? fun j => he j fun f => f
   rw [h1, h2, this]
  ·rename_i h1 h2
   rcases hk with f | ⟨rfl, rfl⟩
   ·exact f.elim
   ·rw [h1, h2]
  ·exact hk
section again
variable {H : Type} {en : TypeId × Value → H} {P : Program} {w w' : World} {base : Nat} {sp : Nat → Bool} {hd : Bool}
theorem trodAll_carry : ∀ {ts : List TypeId} {vs : List Value} {ds : List (DataW H)} {ps : List MemPlace}, DataW.TrodAll en P w base sp hd ts vs ds ps → (∀ p, p ∈ ps → w.sameAt w' p) → DataW.TrodAll en P w' base sp hd ts vs ds ps
 | [], [], [], _, h, _ => h
 | _ :: _, _ :: _, _ :: _, _, ⟨p, q, ⟨n, h1⟩, h2, e⟩, hs => ⟨p, q, ⟨n, DataW.trod_carry n _ _ _ h1 fun x hx => hs x (by rw [e]; exact List.mem_append_left _ hx)⟩, trodAll_carry h2 fun x hx => hs x (by rw [e]; exact List.mem_append_right _ hx), e⟩
theorem trodAll_length : ∀ {ts : List TypeId} {vs : List Value} {ds : List (DataW H)} {ps : List MemPlace}, DataW.TrodAll en P w base sp hd ts vs ds ps → ds.length = ts.length
 | [], [], [], _, _ => rfl
 | _ :: _, _ :: _, _ :: _, _, ⟨_, _, _, h2, _⟩ => by simp only [List.length_cons, trodAll_length h2]
theorem read_again (hl : laidOutB P = true) (hm : mapsRowed P = true)
  (hf : ((List.range P.types.size).all fun t => match P.underlying t with | some (.slice e) => decide (0 < P.cellsOf e) | _ => true) = true)
  {ts : List TypeId} (hts : (ts.all fun t => decide (t < P.types.size)) = true) {vs : List Value} {ds : List (DataW H)} {ps : List MemPlace} (h : DataW.TrodAll en P w 0 (fun _ => true) true ts vs ds ps) (hlt : ∀ p, p ∈ ps → p.block < w.heap.size) (hk : Kept w w')
  (hs : ∀ p, p ∈ ps → sp p.block = true) : DataW.TrodAll en P w' 0 sp true ts vs ds ps :=
 trodAll_carry (DataW.TrodAll.respare (kids_rows hl hm) (slices_full_of P hf) (fun t ht => by have := List.all_eq_true.1 hts t ht; simpa using this) h hs) fun p hp => hk.sameAt (hlt p hp)
end again
def lawCon (Ts : List Ty) : Con where
 D := ⟨[], parV Ts⟩
 A := ⟨[], .bool⟩
 pre := fun x => wfV (parV Ts) x.2
 spec := fun _ => .inl ((), true)
theorem law_calls {P : Program} {f : FuncId} {Ts : List Ty} (hC : ConOk P f (lawCon Ts)) {H : Type} {en : TypeId × Value → H} {w : World} {r : Reach} {b0 : Nat} {ts : List TypeId} {args : Array Value} {ds : List (DataW H)} {ps : List MemPlace}
  (ht : parsIn P ts Ts = true) (hv : ∀ (j : Nat) t v, ts[j]? = some t → args.toList[j]? = some v → Value.okWide P w r b0 t v) (hA : DataW.TrodAll en P w 0 (fun _ => true) true ts args.toList ds ps)
  (hG : GlobOk fun b o => w.cell? ⟨b, o, none⟩) : Calls P f args w fun e w' => e = .returned (.bool true) ∧ Kept w w' := by
 obtain ⟨x, hx, hr⟩ := read_args ht hv hA
 have hR : Rel ⟨fun _ => none, fun b o => w.cell? ⟨b, o, none⟩⟩ Heap.empty w := rel_empty w _ (fun _ _ _ h => h) hG
 refine (hC ((), x) hx _ w args hR (Dom.args_eq (lawCon Ts).D ((), x) ▸ hr _ _ _ fun b o c h => h)).mono ?_
 rintro e w' ⟨β', c, rfl, hR', hLe, hv⟩
 have hv : VRel 0 β' (.bool true true) c := hv
 have hLe : Le _ Heap.empty w β' _ w' := hLe
 rw [bool_of hv]
 exact ⟨rfl, kept_of_le (fun g cs e h => by simp [Heap.empty, Heap.row, Heap.get, Trie.get_leaf] at h) hLe⟩
theorem glob_none (h : globInts = []) {i : Nat → Nat → Option Value} : GlobOk i := fun g hg => by rw [h] at hg; simp at hg
end Go.Vx
end
section
set_option linter.unusedVariables false
set_option linter.unusedSimpArgs false
namespace Go.Vx
class Eqb (α : Type) where
 eq : (a b : α) → Decidable (a = b)
instance : Eqb Int := ⟨fun a b => inferInstance⟩
instance : Eqb Nat := ⟨fun a b => inferInstance⟩
instance : Eqb Bool := ⟨fun a b => inferInstance⟩
instance : Eqb UInt8 := ⟨fun a b => inferInstance⟩
instance : Eqb Unit := ⟨fun a b => inferInstance⟩
instance {α β : Type} [Eqb α] [Eqb β] : Eqb (α × β) := ⟨@instDecidableEqProd α β Eqb.eq Eqb.eq⟩
instance {α β : Type} [Eqb α] [Eqb β] : Eqb (α ⊕ β) := ⟨@instDecidableEqSum α β Eqb.eq Eqb.eq⟩
instance {α : Type} [Eqb α] : Eqb (List α) := ⟨@instDecidableEqList α Eqb.eq⟩
inductive Tr (α : Type) : Type 1 where
 | ret (y : α)
 | bad
 | br (c : Bool) (a b : Tr α)
 | chk (p : Prop) [d : Decidable p] (a : Tr α)
 | ok (p : Prop) (h : p) (a : Tr α)
 | twice (a : Tr α)
 | two [d : Eqb α] (a b : Tr α)
 | call {β : Type} (o : Option β) (k : β → Tr α)
 | both {β γ : Type} (o : Option (β ⊕ γ)) (k : β → Tr α) (l : γ → Tr α)
abbrev Tr.okl {α : Type} (n : Nat) (a : Tr α) : Tr α := .ok ((0 : Nat) = (0 : Nat) ∧ n = n) ⟨rfl, rfl⟩ a
def Tr.wp {α : Type} : Tr α → (α → Prop) → Prop
 | .ret y, q => q y
 | .bad, _ => False
 | .br c a b, q => (c = true → a.wp q) ∧ (c = false → b.wp q)
 | @Tr.chk _ p _ a, q => p ∧ a.wp q
 | .ok p _ a, q => p ∧ a.wp q
 | .twice a, q => Twice (a.wp q) (a.wp q)
 | @Tr.two _ _ a b, q => Twice (a.wp q) (b.wp q)
 | .call o k, q => o ≠ none ∧ o ≠ none ∧ ∀ y, o = some y → (k y).wp q
 | .both o k l, q => o ≠ none ∧ o ≠ none ∧ (∀ y, o = some (.inl y) → (k y).wp q) ∧ ∀ y, o = some (.inr y) → (l y).wp q
def Tr.val {α : Type} : Tr α → Option α
 | .ret y => some y
 | .bad => none
 | .br c a b => bif c then a.val else b.val
 | @Tr.chk _ p d a => @ite _ p d a.val none
 | .ok _ _ a => a.val
 | .twice a => a.val
 | @Tr.two _ d a b => match a.val, b.val with
  | some x, some y => @ite _ (x = y) (d.eq x y) (some x) none
  | _, _ => none
 | .call o k => match o with
  | none => none
  | some y => (k y).val
 | .both o k l => match o with
  | none => none
  | some (.inl y) => (k y).val
  | some (.inr y) => (l y).val
theorem Tr.wp_of_val {α : Type} {q : α → Prop} : ∀ {t : Tr α} {y : α}, t.val = some y → q y → t.wp q
 | .ret z, y, h, hq => by simp only [Tr.val, Option.some.injEq] at h; subst h; exact hq
 | .bad, y, h, _ => by simp [Tr.val] at h
 | .br c a b, y, h, hq => by
  cases c with
  | true => exact ⟨fun _ => Tr.wp_of_val (t := a) (by simpa [Tr.val] using h) hq, fun e => by cases e⟩
  | false => exact ⟨fun e => (by cases e), fun _ => Tr.wp_of_val (t := b) (by simpa [Tr.val] using h) hq⟩
 | @Tr.chk _ p d a, y, h, hq => by
  simp only [Tr.val] at h
  split at h
  ·rename_i hp; exact ⟨hp, Tr.wp_of_val h hq⟩
  ·cases h
 | .ok p hp a, y, h, hq => ⟨hp, Tr.wp_of_val (t := a) h hq⟩
 | .twice a, y, h, hq => ⟨Tr.wp_of_val (t := a) h hq, Tr.wp_of_val (t := a) h hq⟩
 | @Tr.two _ _ a b, y, h, hq => by
  simp only [Tr.val] at h
  split at h
  ·rename_i x z ha hb
   split at h
   ·rename_i e
    subst e
    cases h
    exact ⟨Tr.wp_of_val ha hq, Tr.wp_of_val hb hq⟩
   ·cases h
  ·cases h
 | .call o k, y, h, hq => by
  cases o with
  | none => simp [Tr.val] at h
  | some z => exact ⟨by simp, by simp, fun z' e => by cases e; exact Tr.wp_of_val h hq⟩
 | .both o k l, y, h, hq => by
  match o, h with
  | none, h => simp [Tr.val] at h
  | some (.inl z), h => exact ⟨by simp, by simp, fun z' e => (by cases e; exact Tr.wp_of_val h hq), fun z' e => by cases e⟩
  | some (.inr z), h => exact ⟨by simp, by simp, fun z' e => (by cases e), fun z' e => by cases e; exact Tr.wp_of_val h hq⟩
section loops
variable {σ ρ : Type} (body : σ → Tr (σ ⊕ ρ))
def iter : Nat → σ → Option ρ
 | 0, _ => none
 | n + 1, s => match (body s).val with
  | none => none
  | some (.inl s') => iter n s'
  | some (.inr r) => some r
def rounds : Nat := 1125899906842624
def Loop (s : σ) : Option ρ := iter body rounds s
theorem iter_mono : ∀ (n : Nat) (s : σ) (r : ρ), iter body n s = some r → iter body (n + 1) s = some r := by
 intro n
 induction n with
 | zero => intro s r h; simp [iter] at h
 | succ n ih =>
  intro s r h
  rw [iter] at h ⊢
  split
  ·rename_i e; rw [e] at h; cases h
  ·rename_i s' e; rw [e] at h; exact ih s' r h
  ·rename_i r' e; rw [e] at h; exact h
theorem iter_le {n m : Nat} (h : n ≤ m) {s : σ} {r : ρ} (hr : iter body n s = some r) : iter body m s = some r := by
 obtain ⟨k, rfl⟩ := Nat.exists_eq_add_of_le h
 induction k with
 | zero => exact hr
 | succ k ih => exact iter_mono body _ _ _ (ih (by omega))
theorem least {p : Nat → Prop} (h : ∃ n, p n) : ∃ n, p n ∧ ∀ m, p m → n ≤ m := by
 obtain ⟨n, hn⟩ := h
 induction n using Nat.strongRecOn with
 | ind n ih =>
  by_cases e : ∃ m, m < n ∧ p m
  ·obtain ⟨m, hm, hp⟩ := e; exact ih m hm hp
  ·exact ⟨n, hn, fun m hm => Nat.le_of_not_lt fun hlt => e ⟨m, hlt, hm⟩⟩
open Classical in
noncomputable def turns (s : σ) : Nat := if h : ∃ n, iter body n s ≠ none then (least h).choose else 0
theorem turns_spec {s : σ} {n : Nat} (h : iter body n s ≠ none) : iter body (turns body s) s ≠ none ∧ turns body s ≤ n := by
 have h' : ∃ n, iter body n s ≠ none := ⟨n, h⟩
 unfold turns
 rw [dif_pos h']
 exact ⟨(least h').choose_spec.1, (least h').choose_spec.2 n h⟩
theorem Loop_round {s : σ} (h : Loop body s ≠ none) : ∃ x, (body s).val = some x ∧ (match x with
  | .inr r => Loop body s = some r
  | .inl s' => Loop body s' = Loop body s ∧ turns body s' < turns body s) := by
 obtain ⟨h1, h2⟩ := turns_spec body h
 cases hn : turns body s with
 | zero => rw [hn] at h1; simp [iter] at h1
 | succ n =>
  rw [hn] at h1 h2
  cases e : (body s).val with
  | none => rw [iter, e] at h1; exact absurd rfl h1
  | some x =>
   refine ⟨x, rfl, ?_⟩
   cases x with
   | inr r =>
    have : iter body (n + 1) s = some r := by rw [iter, e]
    exact iter_le body h2 this
   | inl s' =>
    have e1 : iter body (n + 1) s = iter body n s' := by rw [iter, e]
    rw [e1] at h1
    obtain ⟨_, h4⟩ := turns_spec body h1
    refine ⟨?_, by omega⟩
    cases hr : iter body n s' with
    | none => exact absurd hr h1
    | some r =>
     have a1 : Loop body s' = some r := iter_le body (by omega) hr
     have a2 : Loop body s = some r := iter_le body h2 (e1.trans hr)
     rw [a1, a2]
end loops
def VP.dflt : (p : VP) → p.den
 | .bool => false
 | .int _ => (0 : Int)
 | .num _ => (0 : Int)
 | .byte => (0 : UInt8)
 | .str => ([] : List UInt8)
 | .vec _ => []
 | .lit _ => ()
 | .ptr _ _ _ _ => ()
 | .sl _ _ => ()
 | .part _ _ => (0, 0)
 | .nil => ()
 | .cat a b => (a.dflt, b.dflt)
 | .agg l => l.dflt
 | .tup l => l.dflt
 | .func _ a b => (a.dflt, b.dflt)
def RP.dflt : (r : RP) → r.den
 | .vec _ _ _ => []
 | .cells p _ _ => p.dflt
 | .dead => ()
def rowsDflt : (l : List RP) → rowsDen l
 | [] => ()
 | r :: rs => (r.dflt, rowsDflt rs)
def Dom.dflt (D : Dom) : D.den := (rowsDflt D.rows, D.vals.dflt)
def tcon (D A : Dom) {α : Type} (pa : D.den → α → A.den) (F : D.den → Option α) : Con where
 D := D
 A := A
 pre := fun x => F x ≠ none
 spec := fun x => match F x with
  | some y => .inl (pa x y)
  | none => .inl A.dflt
 use := fun x ka _ => F x ≠ none ∧ ∀ y, F x = some y → ka (pa x y)
 ok := fun x ka kb h => by
  cases e : F x with
  | some y => exact h.2 y e
  | none => exact absurd e h.1
theorem tcon_ok {P : Program} (hm : P.follows .mixedOrders = true) (hP : progOk P = true) {T : Book} (hT : BookOk P T) {f : FuncId} {D A : Dom} {α : Type} {pa : D.den → α → A.den} {F : D.den → Option α}
  (hf : isFn P f = true) {ls : List Lap} (hls : LapsOk P D.rows.length f ls) (d : Nat) (hA : ∀ y, (A.args y).length = 1) (t : D.den → Tr α) (hF : ∀ x, F x = (t x).val)
  (h : ∀ x qa qb, (tcon D A pa F).run P T d ls f (fun _ => true) x qa qb = (t x).wp fun y => qa (pa x y)) : ConOk P f (tcon D A pa F) := by
 refine Con.proved hm hP hT hf hls d (fun _ => true) hA (.inr fun x y hx e => ?_) fun x hx => ?_
 ·simp only [tcon] at e
  split at e <;> cases e
 ·rw [h x]
  have hx : F x ≠ none := hx
  cases e : F x with
  | none => exact absurd e hx
  | some y =>
   refine Tr.wp_of_val ((hF x).symm.trans e) ?_
   simp only [tcon, e]
def tcon2 (D A B : Dom) {α β : Type} (pa : D.den → α → A.den) (pb : D.den → β → B.den) (F : D.den → Option (α ⊕ β)) : Con where
 D := D
 A := A
 B := B
 pre := fun x => F x ≠ none
 spec := fun x => match F x with
  | some (.inl y) => .inl (pa x y)
  | some (.inr y) => .inr (pb x y)
  | none => .inl A.dflt
 use := fun x ka kb => F x ≠ none ∧ (∀ y, F x = some (.inl y) → ka (pa x y)) ∧ ∀ y, F x = some (.inr y) → kb (pb x y)
 ok := fun x ka kb h => by
  match e : F x with
  | some (.inl y) => exact h.2.1 y e
  | some (.inr y) => exact h.2.2 y e
  | none => exact absurd e h.1
theorem tcon2_ok {P : Program} (hm : P.follows .mixedOrders = true) (hP : progOk P = true) {T : Book} (hT : BookOk P T) {f : FuncId} {D A B : Dom} {α β : Type} {pa : D.den → α → A.den} {pb : D.den → β → B.den} {F : D.den → Option (α ⊕ β)}
  (hf : isFn P f = true) {ls : List Lap} (hls : LapsOk P D.rows.length f ls) (d : Nat) (sel : AV → Bool) (hA : ∀ y, (A.args y).length = 1) (hB : ∀ y, (B.args y).length = 1) (t : D.den → Tr (α ⊕ β)) (hF : ∀ x, F x = (t x).val)
  (h : ∀ x qa qb, (tcon2 D A B pa pb F).run P T d ls f sel x qa qb = (t x).wp fun y => match y with
   | .inl y => qa (pa x y)
   | .inr y => qb (pb x y)) : ConOk P f (tcon2 D A B pa pb F) := by
 refine Con.proved hm hP hT hf hls d sel hA (.inl hB) fun x hx => ?_
 rw [h x]
 have hx : F x ≠ none := hx
 match e : F x with
 | none => exact absurd e hx
 | some (.inl y) =>
  refine Tr.wp_of_val ((hF x).symm.trans e) ?_
  simp only [tcon2, e]
 | some (.inr y) =>
  refine Tr.wp_of_val ((hF x).symm.trans e) ?_
  simp only [tcon2, e]
theorem law_ok {P : Program} {f : FuncId} {Ts : List Ty} {F : (lawCon Ts).D.den → Option Bool} (h : ConOk P f (tcon (lawCon Ts).D (lawCon Ts).A (fun _ y => ((), y)) F)) (ht : ∀ x, (lawCon Ts).pre x → F x = some true) : ConOk P f (lawCon Ts) := fun x hx => by
 have e := ht x hx
 have hx' : (tcon (lawCon Ts).D (lawCon Ts).A (fun _ y => ((), y)) F).pre x := by show F x ≠ none; rw [e]; simp
 have := h x hx'
 simp only [tcon, Con.val, Con.heap, e] at this
 exact this
def tlap (id N : Nat) (live : List Nat) (D : Dom) (oA : Out) (liveA : List Nat) (A : Dom) {α : Type} (pa : D.den → α → A.den) (F : D.den → Option α) : Lap where
 id := id
 N := N
 live := live
 D := D
 oA := oA
 liveA := liveA
 A := A
 inv := fun x => F x ≠ none
 relA := fun x y => ∃ a, F x = some a ∧ y = pa x a
 use := fun x ka _ => F x ≠ none ∧ ∀ y, F x = some y → ka (pa x y)
 ok := fun x ka kb h => ⟨fun y ⟨a, e, hy⟩ => by subst hy; exact h.2 a e, fun y h => h.elim⟩
theorem tlap_ok {P : Program} (hm : P.follows .mixedOrders = true) (hP : progOk P = true) {T : Book} (hT : BookOk P T) {K f id N : Nat} {live : List Nat} {D : Dom} {oA : Out} {liveA : List Nat} {A : Dom} {σ α : Type} {pa : D.den → α → A.den} {F : D.den → Option α}
  (hf : isFn P f = true) (h1 : oneLoop (codeOf P f) id = true) {ls : List Lap} (hls : LapsOk P K f ls) (d : Nat) (pk : D.den → σ → D.den) (un : D.den → σ) (body : D.den → σ → Tr (σ ⊕ α)) (hu : ∀ x s, un (pk x s) = s) (hb : ∀ x s, body (pk x s) = body x) (hp : ∀ x s, pa (pk x s) = pa x) (hF : ∀ x, F x = Loop (body x) (un x))
  (h : ∀ x again qa qb, (tlap id N live D oA liveA A pa F).run P T d K ls f x again qa qb = (body x (un x)).wp fun r => match r with
   | .inl s => again (pk x s)
   | .inr a => qa (pa x a)) : LapOk P K (codeOf P f) (tlap id N live D oA liveA A pa F) := by
 refine Lap.proved hm hP hT (l := tlap id N live D oA liveA A pa F) hf h1 hls d (fun x => turns (body x) (un x)) fun (x : D.den) (hx : F x ≠ none) => ?_
 rw [hF] at hx
 rw [h x]
 obtain ⟨r, e, hr⟩ := Loop_round (body x) hx
 refine Tr.wp_of_val e ?_
 cases r with
 | inr a => exact ⟨a, (hF x).trans hr, rfl⟩
 | inl s =>
  have e1 : F (pk x s) = F x := by rw [hF, hF, hu, hb]; exact hr.1
  refine ⟨?_, ?_, fun y ⟨a, h1, h2⟩ => ⟨a, e1.symm.trans h1, by rw [h2, hp]⟩, fun y h => h⟩
  ·show F (pk x s) ≠ none
   rw [e1, hF]; exact hx
  ·show turns (body (pk x s)) (un (pk x s)) < turns (body x) (un x)
   rw [hu, hb]; exact hr.2
def tlap2 (id N : Nat) (live : List Nat) (D : Dom) (oA : Out) (liveA : List Nat) (A : Dom) (oB : Out) (liveB : List Nat) (B : Dom) {α β : Type} (pa : D.den → α → A.den) (pb : D.den → β → B.den) (F : D.den → Option (α ⊕ β)) : Lap where
 id := id
 N := N
 live := live
 D := D
 oA := oA
 liveA := liveA
 A := A
 oB := oB
 liveB := liveB
 B := B
 inv := fun x => F x ≠ none
 relA := fun x y => ∃ a, F x = some (.inl a) ∧ y = pa x a
 relB := fun x y => ∃ a, F x = some (.inr a) ∧ y = pb x a
 use := fun x ka kb => F x ≠ none ∧ (∀ y, F x = some (.inl y) → ka (pa x y)) ∧ ∀ y, F x = some (.inr y) → kb (pb x y)
 ok := fun x ka kb h => ⟨fun y ⟨a, e, hy⟩ => by subst hy; exact h.2.1 a e, fun y ⟨a, e, hy⟩ => by subst hy; exact h.2.2 a e⟩
theorem tlap2_ok {P : Program} (hm : P.follows .mixedOrders = true) (hP : progOk P = true) {T : Book} (hT : BookOk P T) {K f id N : Nat} {live : List Nat} {D : Dom} {oA oB : Out} {liveA liveB : List Nat} {A B : Dom} {σ α β : Type} {pa : D.den → α → A.den} {pb : D.den → β → B.den} {F : D.den → Option (α ⊕ β)}
  (hf : isFn P f = true) (h1 : oneLoop (codeOf P f) id = true) {ls : List Lap} (hls : LapsOk P K f ls) (d : Nat) (pk : D.den → σ → D.den) (un : D.den → σ) (body : D.den → σ → Tr (σ ⊕ (α ⊕ β))) (hu : ∀ x s, un (pk x s) = s) (hb : ∀ x s, body (pk x s) = body x) (hp : ∀ x s, pa (pk x s) = pa x) (hp' : ∀ x s, pb (pk x s) = pb x) (hF : ∀ x, F x = Loop (body x) (un x))
  (h : ∀ x again qa qb, (tlap2 id N live D oA liveA A oB liveB B pa pb F).run P T d K ls f x again qa qb = (body x (un x)).wp fun r => match r with
   | .inl s => again (pk x s)
   | .inr (.inl a) => qa (pa x a)
   | .inr (.inr a) => qb (pb x a)) : LapOk P K (codeOf P f) (tlap2 id N live D oA liveA A oB liveB B pa pb F) := by
 refine Lap.proved hm hP hT (l := tlap2 id N live D oA liveA A oB liveB B pa pb F) hf h1 hls d (fun x => turns (body x) (un x)) fun (x : D.den) (hx : F x ≠ none) => ?_
 rw [hF] at hx
 rw [h x]
 obtain ⟨r, e, hr⟩ := Loop_round (body x) hx
 refine Tr.wp_of_val e ?_
 cases r with
 | inr a =>
  cases a with
  | inl a => exact ⟨a, (hF x).trans hr, rfl⟩
  | inr a => exact ⟨a, (hF x).trans hr, rfl⟩
 | inl s =>
  have e1 : F (pk x s) = F x := by rw [hF, hF, hu, hb]; exact hr.1
  refine ⟨?_, ?_, fun y ⟨a, h1, h2⟩ => ⟨a, e1.symm.trans h1, by rw [h2, hp]⟩, fun y ⟨a, h1, h2⟩ => ⟨a, e1.symm.trans h1, by rw [h2, hp']⟩⟩
  ·show F (pk x s) ≠ none
   rw [e1, hF]; exact hx
  ·show turns (body (pk x s)) (un (pk x s)) < turns (body x) (un x)
   rw [hu, hb]; exact hr.2
end Go.Vx
end
section
set_option maxRecDepth 1000000
namespace Go.Vx
open Go Go.Vx Go.Proofs
theorem Base.mixed : Try.prog.follows .mixedOrders = true := by kernel_rfl
theorem Base.prog_ok : progOk Try.prog = true := by kernel_rfl
def book0 : Book := Book.none
theorem book0_ok : BookOk Try.prog book0 := BookOk.none _
end Go.Vx
end
section
set_option maxRecDepth 1000000
set_option linter.unusedVariables false
namespace Go.Vx
abbrev Ls := List UInt8
abbrev Lf := List (List UInt8 × List UInt8)
open Go Go.Vx Go.Proofs
namespace q5d
def D : Dom := ⟨[], (.cat (.int .u32) (.int .i64))⟩
def A : Dom := ⟨[.cells (.cat (.int .u32) (.cat (.int .i64) (.cat (.sl 1 1) (.cat .bool (.cat .str (.cat .bool .bool)))))) 94 false, .vec .byte 5 false], (.ptr 0 0 0 0)⟩
def t (most : Int) : Tr (Int × Bool × Ls × Bool × Bool × Ls) :=
 .ret (mn2 (mx2 most (0 : Int)) (4096 : Int), false, [], false, false, [])
def f (most : Int) : Option (Int × Bool × Ls × Bool × Bool × Ls) := (t most).val
def F (x : D.den) : Option (Int × Bool × Ls × Bool × Bool × Ls) := f x.2.2
def pa : D.den → (Int × Bool × Ls × Bool × Bool × Ls) → A.den := fun (_, (p, _)) (y1, y2, y3, y4, y5, y6) => (((p, (y1, ((), (y2, (y3, (y4, y5)))))), (y6, ())), ())
def con : Con := tcon D A pa F
theorem ok : ConOk Try.prog 49 con := tcon_ok Base.mixed Base.prog_ok book0_ok (by kernel_rfl) LapsOk.nil 9 (fun _ => rfl) (fun x => t x.2.2) (fun _ => rfl) fun _ _ _ => (by kernel_rfl)
end q5d
def q5e : Book := book0.add 49 q5d.con
theorem q5f : BookOk Try.prog q5e := book0_ok.add q5d.ok
namespace q2j
def D : Dom := ⟨[.cells (.cat (.int .u32) (.cat (.int .i64) (.cat (.int .i64) (.cat (.int .i64) (.cat (.int .i64) (.cat (.int .i64) (.cat (.int .i64) (.cat (.int .i64) (.cat (.int .i64) (.cat .bool (.cat .bool (.cat (.int .i64) (.cat (.ptr 1 0 0 0) (.cat .str (.cat .str (.cat (.int .i64) (.cat (.sl 3 2) (.cat .bool (.cat (.sl 4 1) (.cat (.sl 5 2) (.cat (.int .i64) (.cat (.int .i64) (.cat (.int .i64) (.cat .bool (.cat .bool (.cat (.int .i64) (.sl 6 7))))))))))))))))))))))))))) 48 false, .cells (.cat (.int .u32) (.cat (.int .i64) (.cat (.sl 2 1) (.cat .bool (.cat .str (.cat .bool .bool)))))) 94 false, .vec .byte 5 false, .vec (.pair .str .str) 99 false, .vec .byte 5 false, .vec (.pair .str .str) 99 false, .vec (.pair .str (.pair .str (.pair (.int .i64) (.pair (.sl (.pair .str .str)) (.pair .bool (.pair (.sl .byte) (.sl (.pair .str .str)))))))) 46 false], (.ptr 0 0 0 0)⟩
def A : Dom := ⟨[.cells (.cat (.int .u32) (.cat (.int .i64) (.cat (.int .i64) (.cat (.int .i64) (.cat (.int .i64) (.cat (.int .i64) (.cat (.int .i64) (.cat (.int .i64) (.cat (.int .i64) (.cat .bool (.cat .bool (.cat (.int .i64) (.cat (.ptr 7 0 0 0) (.cat .str (.cat .str (.cat (.int .i64) (.cat (.sl 9 2) (.cat .bool (.cat (.sl 10 1) (.cat (.sl 11 2) (.cat (.int .i64) (.cat (.int .i64) (.cat (.int .i64) (.cat .bool (.cat .bool (.cat (.int .i64) (.sl 12 7))))))))))))))))))))))))))) 48 false, .cells (.cat (.int .u32) (.cat (.int .i64) (.cat (.sl 2 1) (.cat .bool (.cat .str (.cat .bool .bool)))))) 94 false, .vec .byte 5 false, .dead, .dead, .dead, .dead, .cells (.cat (.int .u32) (.cat (.int .i64) (.cat (.sl 8 1) (.cat .bool (.cat .str (.cat .bool .bool)))))) 94 false, .vec .byte 5 false, .vec (.pair .str .str) 99 false, .vec .byte 5 false, .vec (.pair .str .str) 99 false, .vec (.pair .str (.pair .str (.pair (.int .i64) (.pair (.sl (.pair .str .str)) (.pair .bool (.pair (.sl .byte) (.sl (.pair .str .str)))))))) 46 false], (.tup .nil)⟩
def t (Line : Int) (Method : Ls) (Target : Ls) (Minor : Int) (Chunked_2 : Bool) (vB : Ls) (Fields_2 : Lf) (Body_2 : Ls) (Trailers_2 : Lf) (out : List (Ls × Ls × Int × Lf × Bool × Ls × Lf)) : Tr (Int × Ls × Ls × Int × Bool × Int × Int × Bool × Bool × Int × Bool × Ls × Bool × Bool × Ls × (Lf) × Ls × (Lf) × (List (Ls × Ls × Int × Lf × Bool × Ls × Lf))) :=
 .chk ((0 : Nat) + Fields_2.length ≤ Fields_2.length) <| .chk ((0 : Nat) + Body_2.length ≤ Body_2.length) <| .chk ((0 : Nat) + Trailers_2.length ≤ Trailers_2.length) <| .chk ((1 : Nat) ≤ [(Method, Target, Minor, List.take Fields_2.length (List.drop (0 : Nat) Fields_2), Chunked_2, List.take Body_2.length (List.drop (0 : Nat) Body_2), List.take Trailers_2.length (List.drop (0 : Nat) Trailers_2))].length) <| .chk ((0 : Nat) + out.length ≤ out.length) <| .chk ((out.length + (1 : Nat)) * (120 : Nat) ≤ (140737488355328 : Nat)) <| .call (q5d.f Line) fun (y1a, y1b, y1c, y1d, y1e, y1f) =>
 .okl vB.length <| .okl y1f.length <| .chk ((0 : Nat) = (0 : Nat) ∧ out.length + (1 : Nat) = (List.take out.length (List.drop (0 : Nat) out) ++ List.take (1 : Nat) (List.drop (0 : Nat) [(Method, Target, Minor, List.take Fields_2.length (List.drop (0 : Nat) Fields_2), Chunked_2, List.take Body_2.length (List.drop (0 : Nat) Body_2), List.take Trailers_2.length (List.drop (0 : Nat) Trailers_2))])).length) <| .ret ((0 : Int), [], [], 0, false, 0, 0, false, true, y1a, y1b, y1c, y1d, y1e, y1f, [], [], [], List.take out.length (List.drop (0 : Nat) out) ++ List.take (1 : Nat) (List.drop (0 : Nat) [(Method, Target, Minor, List.take Fields_2.length (List.drop (0 : Nat) Fields_2), Chunked_2, List.take Body_2.length (List.drop (0 : Nat) Body_2), List.take Trailers_2.length (List.drop (0 : Nat) Trailers_2))]))
def f (Line : Int) (Method : Ls) (Target : Ls) (Minor : Int) (Chunked_2 : Bool) (vB : Ls) (Fields_2 : Lf) (Body_2 : Ls) (Trailers_2 : Lf) (out : List (Ls × Ls × Int × Lf × Bool × Ls × Lf)) : Option (Int × Ls × Ls × Int × Bool × Int × Int × Bool × Bool × Int × Bool × Ls × Bool × Bool × Ls × (Lf) × Ls × (Lf) × (List (Ls × Ls × Int × Lf × Bool × Ls × Lf))) := (t Line Method Target Minor Chunked_2 vB Fields_2 Body_2 Trailers_2 out).val
def F (x : D.den) : Option (Int × Ls × Ls × Int × Bool × Int × Int × Bool × Bool × Int × Bool × Ls × Bool × Bool × Ls × (Lf) × Ls × (Lf) × (List (Ls × Ls × Int × Lf × Bool × Ls × Lf))) := f x.1.1.2.1 x.1.1.2.2.2.2.2.2.2.2.2.2.2.2.2.1 x.1.1.2.2.2.2.2.2.2.2.2.2.2.2.2.2.1 x.1.1.2.2.2.2.2.2.2.2.2.2.2.2.2.2.2.1 x.1.1.2.2.2.2.2.2.2.2.2.2.2.2.2.2.2.2.2.1 x.1.2.2.1 x.1.2.2.2.1 x.1.2.2.2.2.1 x.1.2.2.2.2.2.1 x.1.2.2.2.2.2.2.1
def pa : D.den → (Int × Ls × Ls × Int × Bool × Int × Int × Bool × Bool × Int × Bool × Ls × Bool × Bool × Ls × (Lf) × Ls × (Lf) × (List (Ls × Ls × Int × Lf × Bool × Ls × Lf))) → A.den := fun (((P, (Line, (Fields, (Head, (Body, (Ext, (Trailers, (Wait, (Idle, (Chunked, (Old, (_, (_, (_, (_, (_, (_, (_, (_, (_, (_, (_, (left, (_, (_, (E, _)))))))))))))))))))))))))), ((P_2, (Most, (_, (CR, (L, (over, dead)))))), (vB, (_, (_, (_, (_, _))))))), _) (y1, y2, y3, y4, y5, y6, y7, y8, y9, y10, y11, y12, y13, y14, y15, y16, y17, y18, y19) => (((P, (Line, (Fields, (Head, (Body, (Ext, (Trailers, (Wait, (Idle, (Chunked, (Old, (y1, ((), (y2, (y3, (y4, ((), (y5, ((), ((), (y6, (y7, (left, (y8, (y9, (E, ())))))))))))))))))))))))))), ((P_2, (Most, ((), (CR, (L, (over, dead)))))), (vB, ((), ((), ((), ((), ((P, (y10, ((), (y11, (y12, (y13, y14)))))), (y15, (y16, (y17, (y18, (y19, ()))))))))))))), ())
def con : Con := tcon D A pa F
theorem ok : ConOk Try.prog 59 con := tcon_ok Base.mixed Base.prog_ok q5f (by kernel_rfl) LapsOk.nil 9 (fun _ => rfl) (fun x => t x.1.1.2.1 x.1.1.2.2.2.2.2.2.2.2.2.2.2.2.2.1 x.1.1.2.2.2.2.2.2.2.2.2.2.2.2.2.2.1 x.1.1.2.2.2.2.2.2.2.2.2.2.2.2.2.2.2.1 x.1.1.2.2.2.2.2.2.2.2.2.2.2.2.2.2.2.2.2.1 x.1.2.2.1 x.1.2.2.2.1 x.1.2.2.2.2.1 x.1.2.2.2.2.2.1 x.1.2.2.2.2.2.2.1) (fun _ => rfl) fun _ _ _ => (by kernel_rfl)
end q2j
def q2k : Book := q5e.add 59 q2j.con
theorem q2l : BookOk Try.prog q2k := q5f.add q2j.ok
namespace q5s
def D : Dom := ⟨[.cells (.cat (.int .u32) (.cat (.int .i64) (.cat (.sl 1 1) (.cat .bool (.cat .str (.cat .bool .bool)))))) 94 false, .vec .byte 5 false], (.cat (.ptr 0 0 0 0) (.int .i64))⟩
def A : Dom := ⟨[.cells (.cat (.int .u32) (.cat (.int .i64) (.cat (.sl 2 1) (.cat .bool (.cat .str (.cat .bool .bool)))))) 94 false, .vec .byte 5 false, .vec .byte 5 false], (.int .i64)⟩
def t (vB : Ls) : Tr (Bool × Ls × Bool × Ls) :=
 .chk ((0 : Nat) + vB.length ≤ vB.length) <| .ret (false, List.take vB.length (List.drop (0 : Nat) vB), true, [])
def f (vB : Ls) : Option (Bool × Ls × Bool × Ls) := (t vB).val
def F (x : D.den) : Option (Bool × Ls × Bool × Ls) := f x.1.2.1
def pa : D.den → (Bool × Ls × Bool × Ls) → A.den := fun (((P, (Most, (_, (_, (_, (_, dead)))))), (vB, _)), (_, how)) (y1, y2, y3, y4) => (((P, (Most, ((), (y1, (y2, (y3, dead)))))), (vB, (y4, ()))), how)
def con : Con := tcon D A pa F
theorem ok : ConOk Try.prog 66 con := tcon_ok Base.mixed Base.prog_ok q2l (by kernel_rfl) LapsOk.nil 9 (fun _ => rfl) (fun x => t x.1.2.1) (fun _ => rfl) fun _ _ _ => (by kernel_rfl)
end q5s
def q5t : Book := q2k.add 66 q5s.con
theorem q5u : BookOk Try.prog q5t := q2l.add q5s.ok
namespace q4v
def D : Dom := ⟨[], (.cat (.int .u32) (.int .i64))⟩
def A : Dom := ⟨[], .bool⟩
def t (p : Int) (c : Int) : Tr (Bool) :=
 .br (decide (c ≥ (0 : Int))) (.br (decide (c < (30 : Int))) (.chk (¬c < (0 : Int)) <| .ret (IntKind.u32.wrap (↑(BitVec.ofInt IntKind.u32.bits (p.fdiv ((2 : Int) ^ min c.toNat IntKind.u32.bits)) &&& BitVec.ofInt IntKind.u32.bits (1 : Int)).toNat : Int) == (1 : Int)))
  (.ret false))
 (.ret false)
def f (p : Int) (c : Int) : Option (Bool) := (t p c).val
def F (x : D.den) : Option (Bool) := f x.2.1 x.2.2
def pa : D.den → (Bool) → A.den := fun (_, (_, _)) y1 => ((), y1)
def con : Con := tcon D A pa F
theorem ok : ConOk Try.prog 53 con := tcon_ok Base.mixed Base.prog_ok q5u (by kernel_rfl) LapsOk.nil 9 (fun _ => rfl) (fun x => t x.2.1 x.2.2) (fun _ => rfl) fun _ _ _ => (by kernel_rfl)
end q4v
def q4w : Book := q5t.add 53 q4v.con
theorem q4x : BookOk Try.prog q4w := q5u.add q4v.ok
namespace q5p
def D : Dom := q5s.D
def A : Dom := ⟨[.cells (.cat (.int .u32) (.cat (.int .i64) (.cat (.sl 1 1) (.cat .bool (.cat .str (.cat .bool .bool)))))) 94 false, .vec .byte 5 false], (.int .i64)⟩
def t (vB : Ls) : Tr (Bool) :=
 .okl vB.length <| .ret true
def f (vB : Ls) : Option (Bool) := (t vB).val
def F (x : D.den) : Option (Bool) := f x.1.2.1
def pa : D.den → (Bool) → A.den := fun (((P, (Most, (_, (CR, (L, (over, _)))))), (vB, _)), (_, how)) y1 => (((P, (Most, ((), (CR, (L, (over, y1)))))), (vB, ())), how)
def con : Con := tcon D A pa F
theorem ok : ConOk Try.prog 67 con := tcon_ok Base.mixed Base.prog_ok q4x (by kernel_rfl) LapsOk.nil 9 (fun _ => rfl) (fun x => t x.1.2.1) (fun _ => rfl) fun _ _ _ => (by kernel_rfl)
end q5p
def q5q : Book := q4w.add 67 q5p.con
theorem q5r : BookOk Try.prog q5q := q4x.add q5p.ok
namespace q5m
def D : Dom := ⟨[.cells (.cat (.int .u32) (.cat (.int .i64) (.cat (.sl 1 1) (.cat .bool (.cat .str (.cat .bool .bool)))))) 94 false, .vec .byte 5 false], (.cat (.ptr 0 0 0 0) (.int .u8))⟩
def A : Dom := ⟨[.cells (.cat (.int .u32) (.cat (.int .i64) (.cat (.sl 2 1) (.cat .bool (.cat .str (.cat .bool .bool)))))) 94 false, .dead, .vec .byte 5 false], (.int .i64)⟩
def t (P : Int) (Most : Int) (CR : Bool) (L : Ls) (over : Bool) (dead : Bool) (vB : Ls) (c : Int) : Tr (Bool × Ls × Bool × Bool × Ls × Int) :=
 .br dead (.okl vB.length <| .ret (CR, L, over, dead, vB, (3 : Int)))
 (.br CR (.br (c == (10 : Int)) (.okl vB.length <| .call (q5s.f vB) fun (y1a, y1b, y1c, y1d) =>
   .okl y1d.length <| .ret (y1a, y1b, y1c, dead, y1d, (1 : Int)))
  (.br CR (.call (q4v.f P (2 : Int)) fun y2 =>
   .br y2 (.okl vB.length <| .call (q5s.f vB) fun (y3a, y3b, y3c, y3d) =>
    .okl y3d.length <| .ret (y3a, y3b, y3c, dead, y3d, (2 : Int)))
   (.br CR (.okl vB.length <| .call (q5p.f vB) fun y4 =>
    .okl vB.length <| .ret (CR, [], false, y4, vB, (3 : Int)))
    (.br (c == (10 : Int)) (.call (q4v.f P (1 : Int)) fun y5 =>
     .br y5 (.okl vB.length <| .call (q5s.f vB) fun (y6a, y6b, y6c, y6d) =>
     .okl y6d.length <| .ret (y6a, y6b, y6c, dead, y6d, (1 : Int)))
     (.br (c == (10 : Int)) (.okl vB.length <| .call (q5p.f vB) fun y7 =>
      .okl vB.length <| .ret (CR, [], false, y7, vB, (3 : Int)))
     (.br (c == (13 : Int)) (.okl vB.length <| .ret (true, [], false, dead, vB, (0 : Int)))
      (.br (decide ((↑vB.length : Int) ≥ Most)) (.okl vB.length <| .call (q5p.f vB) fun y8 =>
       .okl vB.length <| .ret (CR, [], false, y8, vB, (4 : Int)))
      (.chk ((0 : Nat) + vB.length ≤ vB.length) <| .chk ((vB.length + (1 : Nat)) * (1 : Nat) ≤ (140737488355328 : Nat)) <| .chk ((0 : Int) ≤ c ∧ c < (256 : Int)) <| .chk ((0 : Nat) = (0 : Nat) ∧ vB.length + (1 : Nat) = (List.take vB.length (List.drop (0 : Nat) vB) ++ [UInt8.ofNat c.toNat]).length) <| .ret (CR, [], false, dead, List.take vB.length (List.drop (0 : Nat) vB) ++ [UInt8.ofNat c.toNat], (0 : Int)))))))
    (.br (c == (10 : Int)) (.okl vB.length <| .call (q5p.f vB) fun y9 =>
     .okl vB.length <| .ret (CR, [], false, y9, vB, (3 : Int)))
     (.br (c == (13 : Int)) (.okl vB.length <| .ret (true, [], false, dead, vB, (0 : Int)))
     (.br (decide ((↑vB.length : Int) ≥ Most)) (.okl vB.length <| .call (q5p.f vB) fun y10 =>
      .okl vB.length <| .ret (CR, [], false, y10, vB, (4 : Int)))
      (.chk ((0 : Nat) + vB.length ≤ vB.length) <| .chk ((vB.length + (1 : Nat)) * (1 : Nat) ≤ (140737488355328 : Nat)) <| .chk ((0 : Int) ≤ c ∧ c < (256 : Int)) <| .chk ((0 : Nat) = (0 : Nat) ∧ vB.length + (1 : Nat) = (List.take vB.length (List.drop (0 : Nat) vB) ++ [UInt8.ofNat c.toNat]).length) <| .ret (CR, [], false, dead, List.take vB.length (List.drop (0 : Nat) vB) ++ [UInt8.ofNat c.toNat], (0 : Int)))))))))
   (.br CR (.okl vB.length <| .call (q5p.f vB) fun y11 =>
    .okl vB.length <| .ret (CR, [], false, y11, vB, (3 : Int)))
   (.br (c == (10 : Int)) (.call (q4v.f P (1 : Int)) fun y12 =>
    .br y12 (.okl vB.length <| .call (q5s.f vB) fun (y13a, y13b, y13c, y13d) =>
     .okl y13d.length <| .ret (y13a, y13b, y13c, dead, y13d, (1 : Int)))
    (.br (c == (10 : Int)) (.okl vB.length <| .call (q5p.f vB) fun y14 =>
     .okl vB.length <| .ret (CR, [], false, y14, vB, (3 : Int)))
     (.br (c == (13 : Int)) (.okl vB.length <| .ret (true, [], false, dead, vB, (0 : Int)))
     (.br (decide ((↑vB.length : Int) ≥ Most)) (.okl vB.length <| .call (q5p.f vB) fun y15 =>
      .okl vB.length <| .ret (CR, [], false, y15, vB, (4 : Int)))
      (.chk ((0 : Nat) + vB.length ≤ vB.length) <| .chk ((vB.length + (1 : Nat)) * (1 : Nat) ≤ (140737488355328 : Nat)) <| .chk ((0 : Int) ≤ c ∧ c < (256 : Int)) <| .chk ((0 : Nat) = (0 : Nat) ∧ vB.length + (1 : Nat) = (List.take vB.length (List.drop (0 : Nat) vB) ++ [UInt8.ofNat c.toNat]).length) <| .ret (CR, [], false, dead, List.take vB.length (List.drop (0 : Nat) vB) ++ [UInt8.ofNat c.toNat], (0 : Int)))))))
    (.br (c == (10 : Int)) (.okl vB.length <| .call (q5p.f vB) fun y16 =>
     .okl vB.length <| .ret (CR, [], false, y16, vB, (3 : Int)))
    (.br (c == (13 : Int)) (.okl vB.length <| .ret (true, [], false, dead, vB, (0 : Int)))
     (.br (decide ((↑vB.length : Int) ≥ Most)) (.okl vB.length <| .call (q5p.f vB) fun y17 =>
      .okl vB.length <| .ret (CR, [], false, y17, vB, (4 : Int)))
     (.chk ((0 : Nat) + vB.length ≤ vB.length) <| .chk ((vB.length + (1 : Nat)) * (1 : Nat) ≤ (140737488355328 : Nat)) <| .chk ((0 : Int) ≤ c ∧ c < (256 : Int)) <| .chk ((0 : Nat) = (0 : Nat) ∧ vB.length + (1 : Nat) = (List.take vB.length (List.drop (0 : Nat) vB) ++ [UInt8.ofNat c.toNat]).length) <| .ret (CR, [], false, dead, List.take vB.length (List.drop (0 : Nat) vB) ++ [UInt8.ofNat c.toNat], (0 : Int))))))))))
  (.br CR (.call (q4v.f P (2 : Int)) fun y18 =>
   .br y18 (.okl vB.length <| .call (q5s.f vB) fun (y19a, y19b, y19c, y19d) =>
   .okl y19d.length <| .ret (y19a, y19b, y19c, dead, y19d, (2 : Int)))
   (.br CR (.okl vB.length <| .call (q5p.f vB) fun y20 =>
    .okl vB.length <| .ret (CR, [], false, y20, vB, (3 : Int)))
   (.br (c == (10 : Int)) (.call (q4v.f P (1 : Int)) fun y21 =>
    .br y21 (.okl vB.length <| .call (q5s.f vB) fun (y22a, y22b, y22c, y22d) =>
     .okl y22d.length <| .ret (y22a, y22b, y22c, dead, y22d, (1 : Int)))
    (.br (c == (10 : Int)) (.okl vB.length <| .call (q5p.f vB) fun y23 =>
     .okl vB.length <| .ret (CR, [], false, y23, vB, (3 : Int)))
     (.br (c == (13 : Int)) (.okl vB.length <| .ret (true, [], false, dead, vB, (0 : Int)))
     (.br (decide ((↑vB.length : Int) ≥ Most)) (.okl vB.length <| .call (q5p.f vB) fun y24 =>
      .okl vB.length <| .ret (CR, [], false, y24, vB, (4 : Int)))
      (.chk ((0 : Nat) + vB.length ≤ vB.length) <| .chk ((vB.length + (1 : Nat)) * (1 : Nat) ≤ (140737488355328 : Nat)) <| .chk ((0 : Int) ≤ c ∧ c < (256 : Int)) <| .chk ((0 : Nat) = (0 : Nat) ∧ vB.length + (1 : Nat) = (List.take vB.length (List.drop (0 : Nat) vB) ++ [UInt8.ofNat c.toNat]).length) <| .ret (CR, [], false, dead, List.take vB.length (List.drop (0 : Nat) vB) ++ [UInt8.ofNat c.toNat], (0 : Int)))))))
    (.br (c == (10 : Int)) (.okl vB.length <| .call (q5p.f vB) fun y25 =>
     .okl vB.length <| .ret (CR, [], false, y25, vB, (3 : Int)))
    (.br (c == (13 : Int)) (.okl vB.length <| .ret (true, [], false, dead, vB, (0 : Int)))
     (.br (decide ((↑vB.length : Int) ≥ Most)) (.okl vB.length <| .call (q5p.f vB) fun y26 =>
      .okl vB.length <| .ret (CR, [], false, y26, vB, (4 : Int)))
     (.chk ((0 : Nat) + vB.length ≤ vB.length) <| .chk ((vB.length + (1 : Nat)) * (1 : Nat) ≤ (140737488355328 : Nat)) <| .chk ((0 : Int) ≤ c ∧ c < (256 : Int)) <| .chk ((0 : Nat) = (0 : Nat) ∧ vB.length + (1 : Nat) = (List.take vB.length (List.drop (0 : Nat) vB) ++ [UInt8.ofNat c.toNat]).length) <| .ret (CR, [], false, dead, List.take vB.length (List.drop (0 : Nat) vB) ++ [UInt8.ofNat c.toNat], (0 : Int)))))))))
  (.br CR (.okl vB.length <| .call (q5p.f vB) fun y27 =>
   .okl vB.length <| .ret (CR, [], false, y27, vB, (3 : Int)))
   (.br (c == (10 : Int)) (.call (q4v.f P (1 : Int)) fun y28 =>
    .br y28 (.okl vB.length <| .call (q5s.f vB) fun (y29a, y29b, y29c, y29d) =>
    .okl y29d.length <| .ret (y29a, y29b, y29c, dead, y29d, (1 : Int)))
    (.br (c == (10 : Int)) (.okl vB.length <| .call (q5p.f vB) fun y30 =>
     .okl vB.length <| .ret (CR, [], false, y30, vB, (3 : Int)))
    (.br (c == (13 : Int)) (.okl vB.length <| .ret (true, [], false, dead, vB, (0 : Int)))
     (.br (decide ((↑vB.length : Int) ≥ Most)) (.okl vB.length <| .call (q5p.f vB) fun y31 =>
      .okl vB.length <| .ret (CR, [], false, y31, vB, (4 : Int)))
     (.chk ((0 : Nat) + vB.length ≤ vB.length) <| .chk ((vB.length + (1 : Nat)) * (1 : Nat) ≤ (140737488355328 : Nat)) <| .chk ((0 : Int) ≤ c ∧ c < (256 : Int)) <| .chk ((0 : Nat) = (0 : Nat) ∧ vB.length + (1 : Nat) = (List.take vB.length (List.drop (0 : Nat) vB) ++ [UInt8.ofNat c.toNat]).length) <| .ret (CR, [], false, dead, List.take vB.length (List.drop (0 : Nat) vB) ++ [UInt8.ofNat c.toNat], (0 : Int)))))))
   (.br (c == (10 : Int)) (.okl vB.length <| .call (q5p.f vB) fun y32 =>
    .okl vB.length <| .ret (CR, [], false, y32, vB, (3 : Int)))
    (.br (c == (13 : Int)) (.okl vB.length <| .ret (true, [], false, dead, vB, (0 : Int)))
    (.br (decide ((↑vB.length : Int) ≥ Most)) (.okl vB.length <| .call (q5p.f vB) fun y33 =>
     .okl vB.length <| .ret (CR, [], false, y33, vB, (4 : Int)))
     (.chk ((0 : Nat) + vB.length ≤ vB.length) <| .chk ((vB.length + (1 : Nat)) * (1 : Nat) ≤ (140737488355328 : Nat)) <| .chk ((0 : Int) ≤ c ∧ c < (256 : Int)) <| .chk ((0 : Nat) = (0 : Nat) ∧ vB.length + (1 : Nat) = (List.take vB.length (List.drop (0 : Nat) vB) ++ [UInt8.ofNat c.toNat]).length) <| .ret (CR, [], false, dead, List.take vB.length (List.drop (0 : Nat) vB) ++ [UInt8.ofNat c.toNat], (0 : Int))))))))))
def f (P : Int) (Most : Int) (CR : Bool) (L : Ls) (over : Bool) (dead : Bool) (vB : Ls) (c : Int) : Option (Bool × Ls × Bool × Bool × Ls × Int) := (t P Most CR L over dead vB c).val
def F (x : D.den) : Option (Bool × Ls × Bool × Bool × Ls × Int) := f x.1.1.1 x.1.1.2.1 x.1.1.2.2.2.1 x.1.1.2.2.2.2.1 x.1.1.2.2.2.2.2.1 x.1.1.2.2.2.2.2.2 x.1.2.1 x.2.2
def pa : D.den → (Bool × Ls × Bool × Bool × Ls × Int) → A.den := fun (((P, (Most, (_, (_, (_, (_, _)))))), (_, _)), (_, _)) (y1, y2, y3, y4, y5, y6) => (((P, (Most, ((), (y1, (y2, (y3, y4)))))), ((), (y5, ()))), y6)
def con : Con := tcon D A pa F
theorem ok : ConOk Try.prog 60 con := tcon_ok Base.mixed Base.prog_ok q5r (by kernel_rfl) LapsOk.nil 9 (fun _ => rfl) (fun x => t x.1.1.1 x.1.1.2.1 x.1.1.2.2.2.1 x.1.1.2.2.2.2.1 x.1.1.2.2.2.2.2.1 x.1.1.2.2.2.2.2.2 x.1.2.1 x.2.2) (fun _ => rfl) fun _ _ _ => (by kernel_rfl)
end q5m
def q5n : Book := q5q.add 60 q5m.con
theorem q5o : BookOk Try.prog q5n := q5r.add q5m.ok
namespace q24
def D : Dom := ⟨[.cells (.cat (.int .u32) (.cat (.int .i64) (.cat (.int .i64) (.cat (.int .i64) (.cat (.int .i64) (.cat (.int .i64) (.cat (.int .i64) (.cat (.int .i64) (.cat (.int .i64) (.cat .bool (.cat .bool (.cat (.int .i64) (.cat (.ptr 1 0 0 0) (.cat .str (.cat .str (.cat (.int .i64) (.cat (.sl 3 2) (.cat .bool (.cat (.sl 4 1) (.cat (.sl 5 2) (.cat (.int .i64) (.cat (.int .i64) (.cat (.int .i64) (.cat .bool (.cat .bool (.cat (.int .i64) (.sl 6 7))))))))))))))))))))))))))) 48 false, .cells (.cat (.int .u32) (.cat (.int .i64) (.cat (.sl 2 1) (.cat .bool (.cat .str (.cat .bool .bool)))))) 94 false, .vec .byte 5 false, .vec (.pair .str .str) 99 false, .vec .byte 5 false, .vec (.pair .str .str) 99 false, .vec (.pair .str (.pair .str (.pair (.int .i64) (.pair (.sl (.pair .str .str)) (.pair .bool (.pair (.sl .byte) (.sl (.pair .str .str)))))))) 46 false], (.cat (.ptr 0 0 0 0) (.int .i64))⟩
def A : Dom := ⟨[.cells (.cat (.int .u32) (.cat (.int .i64) (.cat (.int .i64) (.cat (.int .i64) (.cat (.int .i64) (.cat (.int .i64) (.cat (.int .i64) (.cat (.int .i64) (.cat (.int .i64) (.cat .bool (.cat .bool (.cat (.int .i64) (.cat (.ptr 1 0 0 0) (.cat .str (.cat .str (.cat (.int .i64) (.cat (.sl 7 2) (.cat .bool (.cat (.sl 8 1) (.cat (.sl 9 2) (.cat (.int .i64) (.cat (.int .i64) (.cat (.int .i64) (.cat .bool (.cat .bool (.cat (.int .i64) (.sl 6 7))))))))))))))))))))))))))) 48 false, .cells (.cat (.int .u32) (.cat (.int .i64) (.cat (.sl 2 1) (.cat .bool (.cat .str (.cat .bool .bool)))))) 94 false, .vec .byte 5 false, .vec (.pair .str .str) 99 false, .vec .byte 5 false, .vec (.pair .str .str) 99 false, .vec (.pair .str (.pair .str (.pair (.int .i64) (.pair (.sl (.pair .str .str)) (.pair .bool (.pair (.sl .byte) (.sl (.pair .str .str)))))))) 46 false, .vec (.pair .str .str) 99 false, .vec .byte 5 false, .vec (.pair .str .str) 99 false], (.tup .nil)⟩
def t (vB : Ls) (out : List (Ls × Ls × Int × Lf × Bool × Ls × Lf)) : Tr (Ls × Ls × Int × Bool × Bool × (Lf) × Ls × (Lf)) :=
 .okl out.length <| .okl vB.length <| .ret ([], [], 0, false, false, [], [], [])
def f (vB : Ls) (out : List (Ls × Ls × Int × Lf × Bool × Ls × Lf)) : Option (Ls × Ls × Int × Bool × Bool × (Lf) × Ls × (Lf)) := (t vB out).val
def F (x : D.den) : Option (Ls × Ls × Int × Bool × Bool × (Lf) × Ls × (Lf)) := f x.1.2.2.1 x.1.2.2.2.2.2.2.1
def pa : D.den → (Ls × Ls × Int × Bool × Bool × (Lf) × Ls × (Lf)) → A.den := fun (((P, (Line, (Fields, (Head, (Body, (Ext, (Trailers, (Wait, (Idle, (Chunked, (Old, (state, (_, (_, (_, (_, (_, (_, (_, (_, (lines, (head, (left, (fresh, (_, (_, _)))))))))))))))))))))))))), ((P_2, (Most, (_, (CR, (L, (over, dead)))))), (vB, (Fields_2, (Body_2, (Trailers_2, (out, _))))))), (_, e)) (y1, y2, y3, y4, y5, y6, y7, y8) => (((P, (Line, (Fields, (Head, (Body, (Ext, (Trailers, (Wait, (Idle, (Chunked, (Old, (state, ((), (y1, (y2, (y3, ((), (y4, ((), ((), (lines, (head, (left, (fresh, (y5, (e, ())))))))))))))))))))))))))), ((P_2, (Most, ((), (CR, (L, (over, dead)))))), (vB, (Fields_2, (Body_2, (Trailers_2, (out, (y6, (y7, (y8, ())))))))))), ())
def con : Con := tcon D A pa F
theorem ok : ConOk Try.prog 50 con := tcon_ok Base.mixed Base.prog_ok q5o (by kernel_rfl) LapsOk.nil 9 (fun _ => rfl) (fun x => t x.1.2.2.1 x.1.2.2.2.2.2.2.1) (fun _ => rfl) fun _ _ _ => (by kernel_rfl)
end q24
def q25 : Book := q5n.add 50 q24.con
theorem q26 : BookOk Try.prog q25 := q5o.add q24.ok
namespace q34
def D : Dom := ⟨[], (.int .u8)⟩
def A : Dom := ⟨[], .bool⟩
def t (c : Int) : Tr (Bool) :=
 .br (c == (32 : Int)) (.ret true)
 (.ret (c == (9 : Int)))
def f (c : Int) : Option (Bool) := (t c).val
def F (x : D.den) : Option (Bool) := f x.2
def pa : D.den → (Bool) → A.den := fun (_, _) y1 => ((), y1)
def con : Con := tcon D A pa F
theorem ok : ConOk Try.prog 85 con := tcon_ok Base.mixed Base.prog_ok q26 (by kernel_rfl) LapsOk.nil 9 (fun _ => rfl) (fun x => t x.2) (fun _ => rfl) fun _ _ _ => (by kernel_rfl)
end q34
def q35 : Book := q25.add 85 q34.con
theorem q36 : BookOk Try.prog q35 := q26.add q34.ok
namespace q6a
def D : Dom := ⟨[], (.cat .str .bool)⟩
namespace L4
def D : Dom := ⟨[.vec (.pair (.int .i64) (.int .i64)) 128 false], (.cat .str (.cat .bool (.cat (.sl 0 2) (.cat (.int .i64) (.int .i64)))))⟩
def A : Dom := ⟨[.vec (.pair (.int .i64) (.int .i64)) 128 false], (.sl 0 2)⟩
def B : Dom := ⟨[.vec (.pair (.int .i64) (.int .i64)) 128 false], (.cat (.sl 0 2) .bool)⟩
def t (out : List (Int × Int)) (s : Ls) (blanks : Bool) (vfrom : Int) (i : Int) : Tr (((List (Int × Int)) × Int × Int) ⊕ ((List (Int × Int)) ⊕ ((List (Int × Int)) × Bool))) :=
 .br (decide (i ≤ (↑s.length : Int))) (.br (decide (i < (↑s.length : Int))) (.chk ((0 : Int) ≤ i ∧ i < (↑s.length : Int)) <| .br ((↑(s.getD i.toNat (0 : UInt8)).toNat : Int) != (32 : Int)) (.br blanks (.chk ((0 : Int) ≤ i ∧ i < (↑s.length : Int)) <| .call (q34.f (↑(s.getD i.toNat (0 : UInt8)).toNat : Int)) fun y1 =>
   .br (!y1) (.okl out.length <| .ret (.inl (out, vfrom, IntKind.i64.wrap (i + (1 : Int)))))
   (.br (i == vfrom) (.br (!blanks) (.ret (.inr (.inr ([], false))))
    (.br (decide (i > vfrom)) (.chk ((0 : Nat) + out.length ≤ out.length) <| .chk ((out.length + (1 : Nat)) * (16 : Nat) ≤ (140737488355328 : Nat)) <| .chk ((0 : Nat) = (0 : Nat) ∧ out.length + (1 : Nat) = (List.take out.length (List.drop (0 : Nat) out) ++ [(vfrom, i)]).length) <| .ret (.inl (List.take out.length (List.drop (0 : Nat) out) ++ [(vfrom, i)], IntKind.i64.wrap (i + (1 : Int)), IntKind.i64.wrap (i + (1 : Int)))))
     (.okl out.length <| .ret (.inl (out, IntKind.i64.wrap (i + (1 : Int)), IntKind.i64.wrap (i + (1 : Int)))))))
    (.br (decide (i > vfrom)) (.chk ((0 : Nat) + out.length ≤ out.length) <| .chk ((out.length + (1 : Nat)) * (16 : Nat) ≤ (140737488355328 : Nat)) <| .chk ((0 : Nat) = (0 : Nat) ∧ out.length + (1 : Nat) = (List.take out.length (List.drop (0 : Nat) out) ++ [(vfrom, i)]).length) <| .ret (.inl (List.take out.length (List.drop (0 : Nat) out) ++ [(vfrom, i)], IntKind.i64.wrap (i + (1 : Int)), IntKind.i64.wrap (i + (1 : Int)))))
    (.okl out.length <| .ret (.inl (out, IntKind.i64.wrap (i + (1 : Int)), IntKind.i64.wrap (i + (1 : Int))))))))
   (.okl out.length <| .ret (.inl (out, vfrom, IntKind.i64.wrap (i + (1 : Int))))))
  (.br (i == vfrom) (.br (!blanks) (.ret (.inr (.inr ([], false))))
   (.br (decide (i > vfrom)) (.chk ((0 : Nat) + out.length ≤ out.length) <| .chk ((out.length + (1 : Nat)) * (16 : Nat) ≤ (140737488355328 : Nat)) <| .chk ((0 : Nat) = (0 : Nat) ∧ out.length + (1 : Nat) = (List.take out.length (List.drop (0 : Nat) out) ++ [(vfrom, i)]).length) <| .ret (.inl (List.take out.length (List.drop (0 : Nat) out) ++ [(vfrom, i)], IntKind.i64.wrap (i + (1 : Int)), IntKind.i64.wrap (i + (1 : Int)))))
    (.okl out.length <| .ret (.inl (out, IntKind.i64.wrap (i + (1 : Int)), IntKind.i64.wrap (i + (1 : Int)))))))
   (.br (decide (i > vfrom)) (.chk ((0 : Nat) + out.length ≤ out.length) <| .chk ((out.length + (1 : Nat)) * (16 : Nat) ≤ (140737488355328 : Nat)) <| .chk ((0 : Nat) = (0 : Nat) ∧ out.length + (1 : Nat) = (List.take out.length (List.drop (0 : Nat) out) ++ [(vfrom, i)]).length) <| .ret (.inl (List.take out.length (List.drop (0 : Nat) out) ++ [(vfrom, i)], IntKind.i64.wrap (i + (1 : Int)), IntKind.i64.wrap (i + (1 : Int)))))
   (.okl out.length <| .ret (.inl (out, IntKind.i64.wrap (i + (1 : Int)), IntKind.i64.wrap (i + (1 : Int))))))))
  (.br (i == vfrom) (.br (!blanks) (.ret (.inr (.inr ([], false))))
   (.br (decide (i > vfrom)) (.chk ((0 : Nat) + out.length ≤ out.length) <| .chk ((out.length + (1 : Nat)) * (16 : Nat) ≤ (140737488355328 : Nat)) <| .chk ((0 : Nat) = (0 : Nat) ∧ out.length + (1 : Nat) = (List.take out.length (List.drop (0 : Nat) out) ++ [(vfrom, i)]).length) <| .ret (.inl (List.take out.length (List.drop (0 : Nat) out) ++ [(vfrom, i)], IntKind.i64.wrap (i + (1 : Int)), IntKind.i64.wrap (i + (1 : Int)))))
   (.okl out.length <| .ret (.inl (out, IntKind.i64.wrap (i + (1 : Int)), IntKind.i64.wrap (i + (1 : Int)))))))
  (.br (decide (i > vfrom)) (.chk ((0 : Nat) + out.length ≤ out.length) <| .chk ((out.length + (1 : Nat)) * (16 : Nat) ≤ (140737488355328 : Nat)) <| .chk ((0 : Nat) = (0 : Nat) ∧ out.length + (1 : Nat) = (List.take out.length (List.drop (0 : Nat) out) ++ [(vfrom, i)]).length) <| .ret (.inl (List.take out.length (List.drop (0 : Nat) out) ++ [(vfrom, i)], IntKind.i64.wrap (i + (1 : Int)), IntKind.i64.wrap (i + (1 : Int)))))
   (.okl out.length <| .ret (.inl (out, IntKind.i64.wrap (i + (1 : Int)), IntKind.i64.wrap (i + (1 : Int))))))))
 (.okl out.length <| .ret (.inr (.inl out)))
def f (out : List (Int × Int)) (s : Ls) (blanks : Bool) (vfrom : Int) (i : Int) : Option ((List (Int × Int)) ⊕ ((List (Int × Int)) × Bool)) := Loop (fun z : (List (Int × Int)) × Int × Int => t z.1 s blanks z.2.1 z.2.2) (out, vfrom, i)
def F (x : D.den) : Option ((List (Int × Int)) ⊕ ((List (Int × Int)) × Bool)) := f x.1.1 x.2.1 x.2.2.1 x.2.2.2.2.1 x.2.2.2.2.2
def pa : D.den → (List (Int × Int)) → A.den := fun ((_, _), (_, (_, (_, (_, _))))) y1 => ((y1, ()), ())
def pb : D.den → ((List (Int × Int)) × Bool) → B.den := fun ((_, _), (_, (_, (_, (_, _))))) (y1, y2) => ((y1, ()), ((), y2))
def lap : Lap := tlap2 4 54 [0, 1, 6, 7, 8] D (.exit 0) [6] A .ret [4, 5] B pa pb F
def pk (x : D.den) (z : (List (Int × Int)) × Int × Int) : D.den := ((z.1, ()), (x.2.1, (x.2.2.1, ((), (z.2.1, z.2.2)))))
def un (x : D.den) : (List (Int × Int)) × Int × Int := (x.1.1, x.2.2.2.2.1, x.2.2.2.2.2)
def body (x : D.den) (z : (List (Int × Int)) × Int × Int) : Tr (((List (Int × Int)) × Int × Int) ⊕ ((List (Int × Int)) ⊕ ((List (Int × Int)) × Bool))) := t z.1 x.2.1 x.2.2.1 z.2.1 z.2.2
theorem ok : LapOk Try.prog 0 (codeOf Try.prog 82) lap := tlap2_ok Base.mixed Base.prog_ok q36 (by kernel_rfl) (by kernel_rfl) LapsOk.nil 9 pk un body (fun _ _ => rfl) (fun _ _ => rfl) (fun _ _ => rfl) (fun _ _ => rfl) (fun _ => rfl) fun _ _ _ _ => (by kernel_rfl)
end L4
def A : Dom := ⟨[.vec (.pair (.int .i64) (.int .i64)) 128 false], (.tup (.cat (.sl 0 2) .bool))⟩
def t (s : Ls) (blanks : Bool) : Tr ((List (Int × Int)) × Bool) :=
 .both (q6a.L4.f [] s blanks (0 : Int) (0 : Int)) (fun y1 => .okl y1.length <| .ret (y1, true))
 (fun (y2a, y2b) => .okl y2a.length <| .ret (y2a, y2b))
def f (s : Ls) (blanks : Bool) : Option ((List (Int × Int)) × Bool) := (t s blanks).val
def F (x : D.den) : Option ((List (Int × Int)) × Bool) := f x.2.1 x.2.2
def pa : D.den → ((List (Int × Int)) × Bool) → A.den := fun (_, (_, _)) (y1, y2) => ((y1, ()), ((), y2))
def con : Con := tcon D A pa F
theorem ok : ConOk Try.prog 82 con := tcon_ok Base.mixed Base.prog_ok q36 (by kernel_rfl) (.cons L4.ok (by kernel_rfl) (.nil)) 9 (fun _ => rfl) (fun x => t x.2.1 x.2.2) (fun _ => rfl) fun _ _ _ => (by kernel_rfl)
end q6a
def q6b : Book := q35.add 82 q6a.con
theorem q6c : BookOk Try.prog q6b := q36.add q6a.ok
namespace q67
def D : Dom := ⟨[], (.cat .str .bool)⟩
def A : Dom := ⟨[], (.tup (.cat .str (.cat .str (.cat .str (.cat (.int .i64) .bool)))))⟩
def t (s : Ls) (blanks : Bool) : Tr (Ls × Ls × Ls × Int × Bool) :=
 .call (q6a.f s blanks) fun (y1a, y1b) =>
 .br (!y1b) (.ret ([], [], [], (↑y1a.length : Int), false))
 (.br (decide ((↑y1a.length : Int) < (2 : Int))) (.ret ([], [], [], (↑y1a.length : Int), false))
  (.twice <| .chk ((0 : Int) ≤ (0 : Int) ∧ (0 : Int) < (↑y1a.length : Int)) <| .chk ((0 : Nat) < y1a.length) <| .chk ((0 : Int) ≤ IntKind.i64.wrap ((↑y1a.length : Int) - (1 : Int)) ∧ IntKind.i64.wrap ((↑y1a.length : Int) - (1 : Int)) < (↑y1a.length : Int)) <| .chk ((0 : Nat) + (IntKind.i64.wrap ((↑y1a.length : Int) - (1 : Int))).toNat < y1a.length) <| .br (decide ((↑y1a.length : Int) > (2 : Int))) (.chk ((0 : Int) ≤ (1 : Int) ∧ (1 : Int) < (↑y1a.length : Int)) <| .chk ((1 : Nat) < y1a.length) <| .chk ((0 : Int) ≤ IntKind.i64.wrap ((↑y1a.length : Int) - (2 : Int)) ∧ IntKind.i64.wrap ((↑y1a.length : Int) - (2 : Int)) < (↑y1a.length : Int)) <| .chk ((0 : Nat) + (IntKind.i64.wrap ((↑y1a.length : Int) - (2 : Int))).toNat < y1a.length) <| .chk ((0 : Int) ≤ (y1a.getD (1 : Nat) ((0 : Int), (0 : Int))).fst ∧ (y1a.getD (1 : Nat) ((0 : Int), (0 : Int))).fst ≤ (y1a.getD ((0 : Nat) + (IntKind.i64.wrap ((↑y1a.length : Int) - (2 : Int))).toNat) ((0 : Int), (0 : Int))).snd ∧ (y1a.getD ((0 : Nat) + (IntKind.i64.wrap ((↑y1a.length : Int) - (2 : Int))).toNat) ((0 : Int), (0 : Int))).snd ≤ (↑s.length : Int)) <| .chk ((0 : Int) ≤ (y1a.getD (0 : Nat) ((0 : Int), (0 : Int))).fst ∧ (y1a.getD (0 : Nat) ((0 : Int), (0 : Int))).fst ≤ (y1a.getD (0 : Nat) ((0 : Int), (0 : Int))).snd ∧ (y1a.getD (0 : Nat) ((0 : Int), (0 : Int))).snd ≤ (↑s.length : Int)) <| .chk ((0 : Int) ≤ (y1a.getD ((0 : Nat) + (IntKind.i64.wrap ((↑y1a.length : Int) - (1 : Int))).toNat) ((0 : Int), (0 : Int))).fst ∧ (y1a.getD ((0 : Nat) + (IntKind.i64.wrap ((↑y1a.length : Int) - (1 : Int))).toNat) ((0 : Int), (0 : Int))).fst ≤ (y1a.getD ((0 : Nat) + (IntKind.i64.wrap ((↑y1a.length : Int) - (1 : Int))).toNat) ((0 : Int), (0 : Int))).snd ∧ (y1a.getD ((0 : Nat) + (IntKind.i64.wrap ((↑y1a.length : Int) - (1 : Int))).toNat) ((0 : Int), (0 : Int))).snd ≤ (↑s.length : Int)) <| .ret (List.drop (Int.toNat (y1a.getD (0 : Nat) ((0 : Int), (0 : Int))).fst) (List.take (Int.toNat (y1a.getD (0 : Nat) ((0 : Int), (0 : Int))).snd) s), List.drop (Int.toNat (y1a.getD (1 : Nat) ((0 : Int), (0 : Int))).fst) (List.take (Int.toNat (y1a.getD ((0 : Nat) + (IntKind.i64.wrap ((↑y1a.length : Int) - (2 : Int))).toNat) ((0 : Int), (0 : Int))).snd) s), List.drop (Int.toNat (y1a.getD ((0 : Nat) + (IntKind.i64.wrap ((↑y1a.length : Int) - (1 : Int))).toNat) ((0 : Int), (0 : Int))).fst) (List.take (Int.toNat (y1a.getD ((0 : Nat) + (IntKind.i64.wrap ((↑y1a.length : Int) - (1 : Int))).toNat) ((0 : Int), (0 : Int))).snd) s), (↑y1a.length : Int), true))
  (.chk ((0 : Int) ≤ (y1a.getD (0 : Nat) ((0 : Int), (0 : Int))).fst ∧ (y1a.getD (0 : Nat) ((0 : Int), (0 : Int))).fst ≤ (y1a.getD (0 : Nat) ((0 : Int), (0 : Int))).snd ∧ (y1a.getD (0 : Nat) ((0 : Int), (0 : Int))).snd ≤ (↑s.length : Int)) <| .chk ((0 : Int) ≤ (y1a.getD ((0 : Nat) + (IntKind.i64.wrap ((↑y1a.length : Int) - (1 : Int))).toNat) ((0 : Int), (0 : Int))).fst ∧ (y1a.getD ((0 : Nat) + (IntKind.i64.wrap ((↑y1a.length : Int) - (1 : Int))).toNat) ((0 : Int), (0 : Int))).fst ≤ (y1a.getD ((0 : Nat) + (IntKind.i64.wrap ((↑y1a.length : Int) - (1 : Int))).toNat) ((0 : Int), (0 : Int))).snd ∧ (y1a.getD ((0 : Nat) + (IntKind.i64.wrap ((↑y1a.length : Int) - (1 : Int))).toNat) ((0 : Int), (0 : Int))).snd ≤ (↑s.length : Int)) <| .ret (List.drop (Int.toNat (y1a.getD (0 : Nat) ((0 : Int), (0 : Int))).fst) (List.take (Int.toNat (y1a.getD (0 : Nat) ((0 : Int), (0 : Int))).snd) s), [], List.drop (Int.toNat (y1a.getD ((0 : Nat) + (IntKind.i64.wrap ((↑y1a.length : Int) - (1 : Int))).toNat) ((0 : Int), (0 : Int))).fst) (List.take (Int.toNat (y1a.getD ((0 : Nat) + (IntKind.i64.wrap ((↑y1a.length : Int) - (1 : Int))).toNat) ((0 : Int), (0 : Int))).snd) s), (↑y1a.length : Int), true))))
def f (s : Ls) (blanks : Bool) : Option (Ls × Ls × Ls × Int × Bool) := (t s blanks).val
def F (x : D.den) : Option (Ls × Ls × Ls × Int × Bool) := f x.2.1 x.2.2
def pa : D.den → (Ls × Ls × Ls × Int × Bool) → A.den := fun (_, (_, _)) (y1, y2, y3, y4, y5) => ((), (y1, (y2, (y3, (y4, y5)))))
def con : Con := tcon D A pa F
theorem ok : ConOk Try.prog 72 con := tcon_ok Base.mixed Base.prog_ok q6c (by kernel_rfl) LapsOk.nil 9 (fun _ => rfl) (fun x => t x.2.1 x.2.2) (fun _ => rfl) fun _ _ _ => (by kernel_rfl)
end q67
def q68 : Book := q6b.add 72 q67.con
theorem q69 : BookOk Try.prog q68 := q6c.add q67.ok
end Go.Vx
end
section
set_option maxRecDepth 1000000
set_option linter.unusedVariables false
namespace Go.Vx
open Go Go.Vx Go.Proofs
namespace q3d
def D : Dom := ⟨[], (.int .u8)⟩
def A : Dom := ⟨[], .bool⟩
def t (c : Int) : Tr (Bool) :=
 .br (decide (c ≥ (48 : Int))) (.ret (decide (c ≤ (57 : Int))))
 (.ret false)
def f (c : Int) : Option (Bool) := (t c).val
def F (x : D.den) : Option (Bool) := f x.2
def pa : D.den → (Bool) → A.den := fun (_, _) y1 => ((), y1)
def con : Con := tcon D A pa F
theorem ok : ConOk Try.prog 91 con := tcon_ok Base.mixed Base.prog_ok q69 (by kernel_rfl) LapsOk.nil 9 (fun _ => rfl) (fun x => t x.2) (fun _ => rfl) fun _ _ _ => (by kernel_rfl)
end q3d
def q3e : Book := q68.add 91 q3d.con
theorem q3f : BookOk Try.prog q3e := q69.add q3d.ok
namespace q3m
def D : Dom := ⟨[], (.int .u8)⟩
def A : Dom := ⟨[], (.tup (.cat (.int .i64) .bool))⟩
def t (c : Int) : Tr (Int × Bool) :=
 .call (q3d.f c) fun y1 =>
 .br y1 (.ret (IntKind.i64.wrap (IntKind.u8.wrap (c - (48 : Int))), true))
 (.br (decide (c ≥ (97 : Int))) (.br (decide (c ≤ (102 : Int))) (.ret (IntKind.i64.wrap (IntKind.i64.wrap (IntKind.u8.wrap (c - (97 : Int))) + (10 : Int)), true))
  (.br (decide (c ≥ (65 : Int))) (.br (decide (c ≤ (70 : Int))) (.ret (IntKind.i64.wrap (IntKind.i64.wrap (IntKind.u8.wrap (c - (65 : Int))) + (10 : Int)), true))
   (.ret ((0 : Int), false)))
   (.ret ((0 : Int), false))))
  (.br (decide (c ≥ (65 : Int))) (.br (decide (c ≤ (70 : Int))) (.ret (IntKind.i64.wrap (IntKind.i64.wrap (IntKind.u8.wrap (c - (65 : Int))) + (10 : Int)), true))
   (.ret ((0 : Int), false)))
  (.ret ((0 : Int), false))))
def f (c : Int) : Option (Int × Bool) := (t c).val
def F (x : D.den) : Option (Int × Bool) := f x.2
def pa : D.den → (Int × Bool) → A.den := fun (_, _) (y1, y2) => ((), (y1, y2))
def con : Con := tcon D A pa F
theorem ok : ConOk Try.prog 98 con := tcon_ok Base.mixed Base.prog_ok q3f (by kernel_rfl) LapsOk.nil 9 (fun _ => rfl) (fun x => t x.2) (fun _ => rfl) fun _ _ _ => (by kernel_rfl)
end q3m
def q3n : Book := q3e.add 98 q3m.con
theorem q3o : BookOk Try.prog q3n := q3f.add q3m.ok
namespace q3s
def D : Dom := ⟨[], (.int .u8)⟩
def A : Dom := ⟨[], .bool⟩
def t (c : Int) : Tr (Bool) :=
 .br (decide (c ≥ (97 : Int))) (.br (decide (c ≤ (122 : Int))) (.ret true)
  (.br (decide (c ≥ (65 : Int))) (.ret (decide (c ≤ (90 : Int))))
  (.ret false)))
 (.br (decide (c ≥ (65 : Int))) (.ret (decide (c ≤ (90 : Int))))
  (.ret false))
def f (c : Int) : Option (Bool) := (t c).val
def F (x : D.den) : Option (Bool) := f x.2
def pa : D.den → (Bool) → A.den := fun (_, _) y1 => ((), y1)
def con : Con := tcon D A pa F
theorem ok : ConOk Try.prog 102 con := tcon_ok Base.mixed Base.prog_ok q3o (by kernel_rfl) LapsOk.nil 9 (fun _ => rfl) (fun x => t x.2) (fun _ => rfl) fun _ _ _ => (by kernel_rfl)
end q3s
def q3t : Book := q3n.add 102 q3s.con
theorem q3u : BookOk Try.prog q3t := q3o.add q3s.ok
namespace q4m
def D : Dom := ⟨[], (.cat (.int .u8) .str)⟩
namespace L2
def D : Dom := ⟨[], (.cat (.int .u8) (.cat .str (.int .i64)))⟩
def A : Dom := ⟨[], .nil⟩
def B : Dom := ⟨[], .bool⟩
def t (c : Int) (s : Ls) (i : Int) : Tr ((Int) ⊕ ((Unit) ⊕ (Bool))) :=
 .br (decide (i < (↑s.length : Int))) (.chk ((0 : Int) ≤ i ∧ i < (↑s.length : Int)) <| .br ((↑(s.getD i.toNat (0 : UInt8)).toNat : Int) == c) (.ret (.inr (.inr true)))
  (.ret (.inl (IntKind.i64.wrap (i + (1 : Int))))))
 (.ret (.inr (.inl ())))
def f (c : Int) (s : Ls) (i : Int) : Option ((Unit) ⊕ (Bool)) := Loop (fun z : Int => t c s z) i
def F (x : D.den) : Option ((Unit) ⊕ (Bool)) := f x.2.1 x.2.2.1 x.2.2.2
def pa : D.den → (Unit) → A.den := fun (_, (_, (_, _))) _ => ((), ())
def pb : D.den → (Bool) → B.den := fun (_, (_, (_, _))) y1 => ((), y1)
def lap : Lap := tlap2 2 17 [0, 1, 5] D (.exit 0) [] A .ret [4] B pa pb F
def pk (x : D.den) (z : Int) : D.den := ((), (x.2.1, (x.2.2.1, z)))
def un (x : D.den) : Int := x.2.2.2
def body (x : D.den) (z : Int) : Tr ((Int) ⊕ ((Unit) ⊕ (Bool))) := t x.2.1 x.2.2.1 z
theorem ok : LapOk Try.prog 0 (codeOf Try.prog 110) lap := tlap2_ok Base.mixed Base.prog_ok q3u (by kernel_rfl) (by kernel_rfl) LapsOk.nil 9 pk un body (fun _ _ => rfl) (fun _ _ => rfl) (fun _ _ => rfl) (fun _ _ => rfl) (fun _ => rfl) fun _ _ _ _ => (by kernel_rfl)
end L2
def A : Dom := ⟨[], .bool⟩
def t (c : Int) (s : Ls) : Tr (Bool) :=
 .both (q4m.L2.f c s (0 : Int)) (fun _ => .ret false)
 (fun y2 => .ret y2)
def f (c : Int) (s : Ls) : Option (Bool) := (t c s).val
def F (x : D.den) : Option (Bool) := f x.2.1 x.2.2
def pa : D.den → (Bool) → A.den := fun (_, (_, _)) y1 => ((), y1)
def con : Con := tcon D A pa F
theorem ok : ConOk Try.prog 110 con := tcon_ok Base.mixed Base.prog_ok q3u (by kernel_rfl) (.cons L2.ok (by kernel_rfl) (.nil)) 9 (fun _ => rfl) (fun x => t x.2.1 x.2.2) (fun _ => rfl) fun _ _ _ => (by kernel_rfl)
end q4m
def q4n : Book := q3t.add 110 q4m.con
theorem q4o : BookOk Try.prog q4n := q3u.add q4m.ok
namespace q4a
def D : Dom := ⟨[], (.int .u8)⟩
def A : Dom := ⟨[], .bool⟩
def t (c : Int) : Tr (Bool) :=
 .call (q3s.f c) fun y1 =>
 .br y1 (.ret true)
 (.call (q3d.f c) fun y2 =>
  .br y2 (.ret true)
  (.call (q4m.f c [(33 : UInt8), 35, 36, 37, 38, 39, 42, 43, 45, 46, 94, 95, 96, 124, 126]) fun y3 =>
  .ret y3))
def f (c : Int) : Option (Bool) := (t c).val
def F (x : D.den) : Option (Bool) := f x.2
def pa : D.den → (Bool) → A.den := fun (_, _) y1 => ((), y1)
def con : Con := tcon D A pa F
theorem ok : ConOk Try.prog 99 con := tcon_ok Base.mixed Base.prog_ok q4o (by kernel_rfl) LapsOk.nil 9 (fun _ => rfl) (fun x => t x.2) (fun _ => rfl) fun _ _ _ => (by kernel_rfl)
end q4a
def q4b : Book := q4n.add 99 q4a.con
theorem q4c : BookOk Try.prog q4b := q4o.add q4a.ok
namespace q4j
def D : Dom := ⟨[], (.int .u8)⟩
def A : Dom := ⟨[], .bool⟩
def t (c : Int) : Tr (Bool) :=
 .br (decide (c ≥ (33 : Int))) (.ret (decide (c ≤ (126 : Int))))
 (.ret false)
def f (c : Int) : Option (Bool) := (t c).val
def F (x : D.den) : Option (Bool) := f x.2
def pa : D.den → (Bool) → A.den := fun (_, _) y1 => ((), y1)
def con : Con := tcon D A pa F
theorem ok : ConOk Try.prog 84 con := tcon_ok Base.mixed Base.prog_ok q4c (by kernel_rfl) LapsOk.nil 9 (fun _ => rfl) (fun x => t x.2) (fun _ => rfl) fun _ _ _ => (by kernel_rfl)
end q4j
def q4k : Book := q4b.add 84 q4j.con
theorem q4l : BookOk Try.prog q4k := q4c.add q4j.ok
namespace q47
def D : Dom := ⟨[], (.int .u8)⟩
def A : Dom := ⟨[], .bool⟩
def t (c : Int) : Tr (Bool) :=
 .call (q4j.f c) fun y1 =>
 .br y1 (.ret true)
 (.call (q34.f c) fun y2 =>
  .br y2 (.ret true)
  (.ret (decide (c ≥ (128 : Int)))))
def f (c : Int) : Option (Bool) := (t c).val
def F (x : D.den) : Option (Bool) := f x.2
def pa : D.den → (Bool) → A.den := fun (_, _) y1 => ((), y1)
def con : Con := tcon D A pa F
theorem ok : ConOk Try.prog 100 con := tcon_ok Base.mixed Base.prog_ok q4l (by kernel_rfl) LapsOk.nil 9 (fun _ => rfl) (fun x => t x.2) (fun _ => rfl) fun _ _ _ => (by kernel_rfl)
end q47
def q48 : Book := q4k.add 100 q47.con
theorem q49 : BookOk Try.prog q48 := q4l.add q47.ok
namespace q4p
def D : Dom := ⟨[], (.cat (.int .u8) (.int .i64))⟩
def A : Dom := ⟨[], .bool⟩
def t (c : Int) (kind : Int) : Tr (Bool) :=
 .call (q3m.f c) fun (_, y1b) =>
 .br (kind == (1 : Int)) (.call (q4a.f c) fun y2 =>
  .ret y2)
 (.br (kind == (2 : Int)) (.call (q4j.f c) fun y3 =>
  .ret y3)
  (.br (kind == (3 : Int)) (.call (q34.f c) fun y4 =>
   .ret y4)
  (.br (kind == (4 : Int)) (.call (q3d.f c) fun y5 =>
   .ret y5)
   (.br (kind == (5 : Int)) (.ret y1b)
   (.br (kind == (6 : Int)) (.call (q47.f c) fun y6 =>
    .ret y6)
    (.ret false))))))
def f (c : Int) (kind : Int) : Option (Bool) := (t c kind).val
def F (x : D.den) : Option (Bool) := f x.2.1 x.2.2
def pa : D.den → (Bool) → A.den := fun (_, (_, _)) y1 => ((), y1)
def con : Con := tcon D A pa F
theorem ok : ConOk Try.prog 83 con := tcon_ok Base.mixed Base.prog_ok q49 (by kernel_rfl) LapsOk.nil 9 (fun _ => rfl) (fun x => t x.2.1 x.2.2) (fun _ => rfl) fun _ _ _ => (by kernel_rfl)
end q4p
def q4q : Book := q48.add 83 q4p.con
theorem q4r : BookOk Try.prog q4q := q49.add q4p.ok
namespace q31
def D : Dom := ⟨[.vec (.int .i64) 3 true], (.cat .str (.sl 0 1))⟩
namespace L6
def D : Dom := ⟨[.vec (.int .i64) 3 true], (.cat .str (.cat (.sl 0 1) (.cat (.int .i64) (.cat .bool (.int .i64)))))⟩
def A : Dom := ⟨[.vec (.int .i64) 3 true], (.cat .str (.cat (.sl 0 1) (.cat (.int .i64) .bool)))⟩
def t (kinds : List Int) (s : Ls) (i : Int) (ok : Bool) (k : Int) : Tr ((Bool × Int) ⊕ (Bool)) :=
 .br (decide (k < (↑kinds.length : Int))) (.br ok (.okl kinds.length <| .ret (.inl (true, IntKind.i64.wrap (k + (1 : Int)))))
  (.chk ((0 : Int) ≤ i ∧ i < (↑s.length : Int)) <| .chk ((0 : Int) ≤ k ∧ k < (↑kinds.length : Int)) <| .chk ((0 : Nat) + k.toNat < kinds.length) <| .call (q4p.f (↑(s.getD i.toNat (0 : UInt8)).toNat : Int) (kinds.getD ((0 : Nat) + k.toNat) (0 : Int))) fun y1 =>
  .okl kinds.length <| .ret (.inl (y1, IntKind.i64.wrap (k + (1 : Int))))))
 (.okl kinds.length <| .ret (.inr ok))
def f (kinds : List Int) (s : Ls) (i : Int) (ok : Bool) (k : Int) : Option (Bool) := Loop (fun z : Bool × Int => t kinds s i z.1 z.2) (ok, k)
def F (x : D.den) : Option (Bool) := f x.1.1 x.2.1 x.2.2.2.1 x.2.2.2.2.1 x.2.2.2.2.2
def pa : D.den → (Bool) → A.den := fun ((kinds, _), (s, (_, (i, (_, _))))) y1 => ((kinds, ()), (s, ((), (i, y1))))
def lap : Lap := tlap 6 33 [0, 1, 5, 6, 7] D (.exit 2) [0, 1, 5, 6] A pa F
def pk (x : D.den) (z : Bool × Int) : D.den := ((x.1.1, ()), (x.2.1, ((), (x.2.2.2.1, (z.1, z.2)))))
def un (x : D.den) : Bool × Int := (x.2.2.2.2.1, x.2.2.2.2.2)
def body (x : D.den) (z : Bool × Int) : Tr ((Bool × Int) ⊕ (Bool)) := t x.1.1 x.2.1 x.2.2.2.1 z.1 z.2
theorem ok : LapOk Try.prog 1 (codeOf Try.prog 73) lap := tlap_ok Base.mixed Base.prog_ok q4r (by kernel_rfl) (by kernel_rfl) LapsOk.nil 9 pk un body (fun _ _ => rfl) (fun _ _ => rfl) (fun _ _ => rfl) (fun _ => rfl) fun _ _ _ _ => (by kernel_rfl)
end L6
namespace L2
def D : Dom := ⟨[.vec (.int .i64) 3 true], (.cat .str (.cat (.sl 0 1) (.int .i64)))⟩
def A : Dom := ⟨[.vec (.int .i64) 3 true], .nil⟩
def B : Dom := ⟨[.vec (.int .i64) 3 true], .bool⟩
def t (kinds : List Int) (s : Ls) (i : Int) : Tr ((Int) ⊕ ((Unit) ⊕ (Bool))) :=
 .br (decide (i < (↑s.length : Int))) (.okl kinds.length <| .call (q31.L6.f kinds s i false (0 : Int)) fun y1 =>
  .br (!y1) (.ret (.inr (.inr false)))
  (.okl kinds.length <| .ret (.inl (IntKind.i64.wrap (i + (1 : Int))))))
 (.ret (.inr (.inl ())))
def f (kinds : List Int) (s : Ls) (i : Int) : Option ((Unit) ⊕ (Bool)) := Loop (fun z : Int => t kinds s z) i
def F (x : D.den) : Option ((Unit) ⊕ (Bool)) := f x.1.1 x.2.1 x.2.2.2
def pa : D.den → (Unit) → A.den := fun ((kinds, _), (_, (_, _))) _ => ((kinds, ()), ())
def pb : D.den → (Bool) → B.den := fun ((kinds, _), (_, (_, _))) y1 => ((kinds, ()), y1)
def lap : Lap := tlap2 2 33 [0, 1, 5] D (.exit 0) [] A .ret [4] B pa pb F
def pk (x : D.den) (z : Int) : D.den := ((x.1.1, ()), (x.2.1, ((), z)))
def un (x : D.den) : Int := x.2.2.2
def body (x : D.den) (z : Int) : Tr ((Int) ⊕ ((Unit) ⊕ (Bool))) := t x.1.1 x.2.1 z
theorem ok : LapOk Try.prog 1 (codeOf Try.prog 73) lap := tlap2_ok Base.mixed Base.prog_ok q4r (by kernel_rfl) (by kernel_rfl) (.cons L6.ok (by kernel_rfl) (.nil)) 9 pk un body (fun _ _ => rfl) (fun _ _ => rfl) (fun _ _ => rfl) (fun _ _ => rfl) (fun _ => rfl) fun _ _ _ _ => (by kernel_rfl)
end L2
def A : Dom := ⟨[.vec (.int .i64) 3 true], .bool⟩
def t (kinds : List Int) (s : Ls) : Tr (Bool) :=
 .okl kinds.length <| .both (q31.L2.f kinds s (0 : Int)) (fun _ => .ret true)
 (fun y2 => .ret y2)
def f (kinds : List Int) (s : Ls) : Option (Bool) := (t kinds s).val
def F (x : D.den) : Option (Bool) := f x.1.1 x.2.1
def pa : D.den → (Bool) → A.den := fun ((kinds, _), (_, _)) y1 => ((kinds, ()), y1)
def con : Con := tcon D A pa F
theorem ok : ConOk Try.prog 73 con := tcon_ok Base.mixed Base.prog_ok q4r (by kernel_rfl) (.cons L6.ok (by kernel_rfl) (.cons L2.ok (by kernel_rfl) (.nil))) 9 (fun _ => rfl) (fun x => t x.1.1 x.2.1) (fun _ => rfl) fun _ _ _ => (by kernel_rfl)
end q31
def q32 : Book := q4q.add 73 q31.con
theorem q33 : BookOk Try.prog q32 := q4r.add q31.ok
namespace q37
def D : Dom := ⟨[], (.int .u8)⟩
def A : Dom := ⟨[], .bool⟩
def t (c : Int) : Tr (Bool) :=
 .br (decide (c < (32 : Int))) (.ret true)
 (.ret (c == (127 : Int)))
def f (c : Int) : Option (Bool) := (t c).val
def F (x : D.den) : Option (Bool) := f x.2
def pa : D.den → (Bool) → A.den := fun (_, _) y1 => ((), y1)
def con : Con := tcon D A pa F
theorem ok : ConOk Try.prog 86 con := tcon_ok Base.mixed Base.prog_ok q33 (by kernel_rfl) LapsOk.nil 9 (fun _ => rfl) (fun x => t x.2) (fun _ => rfl) fun _ _ _ => (by kernel_rfl)
end q37
def q38 : Book := q32.add 86 q37.con
theorem q39 : BookOk Try.prog q38 := q33.add q37.ok
namespace q6g
def D : Dom := ⟨[], (.cat .str (.int .u32))⟩
namespace L2
def D : Dom := ⟨[], (.cat .str (.cat (.int .u32) (.int .i64)))⟩
def A : Dom := ⟨[], .str⟩
def B : Dom := ⟨[], .bool⟩
def t (s : Ls) (p : Int) (i : Int) : Tr ((Int) ⊕ ((Unit) ⊕ (Bool))) :=
 .br (decide (i < (↑s.length : Int))) (.chk ((0 : Int) ≤ i ∧ i < (↑s.length : Int)) <| .call (q4j.f (↑(s.getD i.toNat (0 : UInt8)).toNat : Int)) fun y1 =>
  .br y1 (.ret (.inl (IntKind.i64.wrap (i + (1 : Int)))))
  (.call (q4v.f p (7 : Int)) fun y2 =>
  .br y2 (.call (q34.f (↑(s.getD i.toNat (0 : UInt8)).toNat : Int)) fun y3 =>
   .br y3 (.ret (.inl (IntKind.i64.wrap (i + (1 : Int)))))
   (.call (q4v.f p (8 : Int)) fun y4 =>
   .br y4 (.call (q37.f (↑(s.getD i.toNat (0 : UInt8)).toNat : Int)) fun y5 =>
    .br (!y5) (.ret (.inr (.inr false)))
    (.ret (.inl (IntKind.i64.wrap (i + (1 : Int))))))
   (.ret (.inr (.inr false)))))
  (.call (q4v.f p (8 : Int)) fun y6 =>
   .br y6 (.call (q37.f (↑(s.getD i.toNat (0 : UInt8)).toNat : Int)) fun y7 =>
   .br (!y7) (.ret (.inr (.inr false)))
   (.ret (.inl (IntKind.i64.wrap (i + (1 : Int))))))
   (.ret (.inr (.inr false))))))
 (.ret (.inr (.inl ())))
def f (s : Ls) (p : Int) (i : Int) : Option ((Unit) ⊕ (Bool)) := Loop (fun z : Int => t s p z) i
def F (x : D.den) : Option ((Unit) ⊕ (Bool)) := f x.2.1 x.2.2.1 x.2.2.2
def pa : D.den → (Unit) → A.den := fun (_, (s, (_, _))) _ => ((), s)
def pb : D.den → (Bool) → B.den := fun (_, (_, (_, _))) y1 => ((), y1)
def lap : Lap := tlap2 2 39 [0, 1, 5] D (.exit 0) [0] A .ret [4] B pa pb F
def pk (x : D.den) (z : Int) : D.den := ((), (x.2.1, (x.2.2.1, z)))
def un (x : D.den) : Int := x.2.2.2
def body (x : D.den) (z : Int) : Tr ((Int) ⊕ ((Unit) ⊕ (Bool))) := t x.2.1 x.2.2.1 z
theorem ok : LapOk Try.prog 0 (codeOf Try.prog 74) lap := tlap2_ok Base.mixed Base.prog_ok q39 (by kernel_rfl) (by kernel_rfl) LapsOk.nil 9 pk un body (fun _ _ => rfl) (fun _ _ => rfl) (fun _ _ => rfl) (fun _ _ => rfl) (fun _ => rfl) fun _ _ _ _ => (by kernel_rfl)
end L2
def A : Dom := ⟨[], .bool⟩
def t (s : Ls) (p : Int) : Tr (Bool) :=
 .both (q6g.L2.f s p (0 : Int)) (fun _ => .ret (!s == []))
 (fun y2 => .ret y2)
def f (s : Ls) (p : Int) : Option (Bool) := (t s p).val
def F (x : D.den) : Option (Bool) := f x.2.1 x.2.2
def pa : D.den → (Bool) → A.den := fun (_, (_, _)) y1 => ((), y1)
def con : Con := tcon D A pa F
theorem ok : ConOk Try.prog 74 con := tcon_ok Base.mixed Base.prog_ok q39 (by kernel_rfl) (.cons L2.ok (by kernel_rfl) (.nil)) 9 (fun _ => rfl) (fun x => t x.2.1 x.2.2) (fun _ => rfl) fun _ _ _ => (by kernel_rfl)
end q6g
def q6h : Book := q38.add 74 q6g.con
theorem q6i : BookOk Try.prog q6h := q39.add q6g.ok
namespace q44
def D : Dom := ⟨[], (.cat .str (.int .u8))⟩
namespace L4
def D : Dom := ⟨[.vec .str 9 false], (.cat .str (.cat (.int .u8) (.cat (.sl 0 1) (.cat (.int .i64) (.int .i64)))))⟩
def A : Dom := ⟨[.vec .str 9 false], (.sl 0 1)⟩
def t (out : List (Ls)) (s : Ls) (c : Int) (vfrom : Int) (i : Int) : Tr ((List (Ls) × Int × Int) ⊕ (List (Ls))) :=
 .br (decide (i ≤ (↑s.length : Int))) (.br (i == (↑s.length : Int)) (.chk ((0 : Int) ≤ vfrom ∧ vfrom ≤ i ∧ i ≤ (↑s.length : Int)) <| .chk ((0 : Nat) + out.length ≤ out.length) <| .chk ((out.length + (1 : Nat)) * (16 : Nat) ≤ (140737488355328 : Nat)) <| .chk ((0 : Nat) = (0 : Nat) ∧ out.length + (1 : Nat) = (List.take out.length (List.drop (0 : Nat) out) ++ [List.drop vfrom.toNat (List.take i.toNat s)]).length) <| .ret (.inl (List.take out.length (List.drop (0 : Nat) out) ++ [List.drop vfrom.toNat (List.take i.toNat s)], IntKind.i64.wrap (i + (1 : Int)), IntKind.i64.wrap (i + (1 : Int)))))
  (.chk ((0 : Int) ≤ i ∧ i < (↑s.length : Int)) <| .br ((↑(s.getD i.toNat (0 : UInt8)).toNat : Int) == c) (.chk ((0 : Int) ≤ vfrom ∧ vfrom ≤ i ∧ i ≤ (↑s.length : Int)) <| .chk ((0 : Nat) + out.length ≤ out.length) <| .chk ((out.length + (1 : Nat)) * (16 : Nat) ≤ (140737488355328 : Nat)) <| .chk ((0 : Nat) = (0 : Nat) ∧ out.length + (1 : Nat) = (List.take out.length (List.drop (0 : Nat) out) ++ [List.drop vfrom.toNat (List.take i.toNat s)]).length) <| .ret (.inl (List.take out.length (List.drop (0 : Nat) out) ++ [List.drop vfrom.toNat (List.take i.toNat s)], IntKind.i64.wrap (i + (1 : Int)), IntKind.i64.wrap (i + (1 : Int)))))
  (.okl out.length <| .ret (.inl (out, vfrom, IntKind.i64.wrap (i + (1 : Int)))))))
 (.okl out.length <| .ret (.inr out))
def f (out : List (Ls)) (s : Ls) (c : Int) (vfrom : Int) (i : Int) : Option (List (Ls)) := Loop (fun z : List (Ls) × Int × Int => t z.1 s c z.2.1 z.2.2) (out, vfrom, i)
def F (x : D.den) : Option (List (Ls)) := f x.1.1 x.2.1 x.2.2.1 x.2.2.2.2.1 x.2.2.2.2.2
def pa : D.den → (List (Ls)) → A.den := fun ((_, _), (_, (_, (_, (_, _))))) y1 => ((y1, ()), ())
def lap : Lap := tlap 4 35 [0, 1, 5, 6, 7] D (.exit 0) [5] A pa F
def pk (x : D.den) (z : List (Ls) × Int × Int) : D.den := ((z.1, ()), (x.2.1, (x.2.2.1, ((), (z.2.1, z.2.2)))))
def un (x : D.den) : List (Ls) × Int × Int := (x.1.1, x.2.2.2.2.1, x.2.2.2.2.2)
def body (x : D.den) (z : List (Ls) × Int × Int) : Tr ((List (Ls) × Int × Int) ⊕ (List (Ls))) := t z.1 x.2.1 x.2.2.1 z.2.1 z.2.2
theorem ok : LapOk Try.prog 0 (codeOf Try.prog 101) lap := tlap_ok Base.mixed Base.prog_ok q6i (by kernel_rfl) (by kernel_rfl) LapsOk.nil 9 pk un body (fun _ _ => rfl) (fun _ _ => rfl) (fun _ _ => rfl) (fun _ => rfl) fun _ _ _ _ => (by kernel_rfl)
end L4
def A : Dom := ⟨[.vec .str 9 false], (.sl 0 1)⟩
def t (s : Ls) (c : Int) : Tr (List (Ls)) :=
 .call (q44.L4.f [] s c (0 : Int) (0 : Int)) fun y1 =>
 .okl y1.length <| .ret y1
def f (s : Ls) (c : Int) : Option (List (Ls)) := (t s c).val
def F (x : D.den) : Option (List (Ls)) := f x.2.1 x.2.2
def pa : D.den → (List (Ls)) → A.den := fun (_, (_, _)) y1 => ((y1, ()), ())
def con : Con := tcon D A pa F
theorem ok : ConOk Try.prog 101 con := tcon_ok Base.mixed Base.prog_ok q6i (by kernel_rfl) (.cons L4.ok (by kernel_rfl) (.nil)) 9 (fun _ => rfl) (fun x => t x.2.1 x.2.2) (fun _ => rfl) fun _ _ _ => (by kernel_rfl)
end q44
def q45 : Book := q6h.add 101 q44.con
theorem q46 : BookOk Try.prog q45 := q6i.add q44.ok
namespace q4s
def D : Dom := ⟨[], (.cat .str (.cat (.int .i64) (.int .i64)))⟩
namespace L6
def D : Dom := ⟨[], (.cat .str (.cat (.int .i64) (.cat (.int .i64) (.cat (.int .i64) (.cat .bool (.int .i64))))))⟩
def A : Dom := ⟨[], (.cat (.int .i64) .bool)⟩
def B : Dom := ⟨[], (.cat (.int .i64) (.int .i64))⟩
def t (s : Ls) (base : Int) (most : Int) (n : Int) (over : Bool) (i : Int) : Tr ((Int × Bool × Int) ⊕ ((Int × Bool) ⊕ (Int × Int))) :=
 .br (decide (i < (↑s.length : Int))) (.chk ((0 : Int) ≤ i ∧ i < (↑s.length : Int)) <| .call (q3m.f (↑(s.getD i.toNat (0 : UInt8)).toNat : Int)) fun (y1a, y1b) =>
  .br (!y1b) (.ret (.inr (.inr ((0 : Int), (22 : Int)))))
  (.br (decide (y1a ≥ base)) (.ret (.inr (.inr ((0 : Int), (22 : Int)))))
  (.br over (.ret (.inl (n, true, IntKind.i64.wrap (i + (1 : Int)))))
   (.chk (base ≠ (0 : Int)) <| .br (decide (n > IntKind.i64.wrap ((IntKind.i64.wrap (most - y1a)).tdiv base))) (.ret (.inl (n, true, IntKind.i64.wrap (i + (1 : Int)))))
   (.br (decide (y1a > most)) (.ret (.inl (n, true, IntKind.i64.wrap (i + (1 : Int)))))
    (.ret (.inl (IntKind.i64.wrap (IntKind.i64.wrap (n * base) + y1a), over, IntKind.i64.wrap (i + (1 : Int))))))))))
 (.ret (.inr (.inl (n, over))))
def f (s : Ls) (base : Int) (most : Int) (n : Int) (over : Bool) (i : Int) : Option ((Int × Bool) ⊕ (Int × Int)) := Loop (fun z : Int × Bool × Int => t s base most z.1 z.2.1 z.2.2) (n, over, i)
def F (x : D.den) : Option ((Int × Bool) ⊕ (Int × Int)) := f x.2.1 x.2.2.1 x.2.2.2.1 x.2.2.2.2.1 x.2.2.2.2.2.1 x.2.2.2.2.2.2
def pa : D.den → (Int × Bool) → A.den := fun (_, (_, (_, (_, (_, (_, _)))))) (y1, y2) => ((), (y1, y2))
def pb : D.den → (Int × Int) → B.den := fun (_, (_, (_, (_, (_, (_, _)))))) (y1, y2) => ((), (y1, y2))
def lap : Lap := tlap2 6 59 [0, 1, 2, 8, 9, 10] D (.exit 0) [8, 9] A .ret [6, 7] B pa pb F
def pk (x : D.den) (z : Int × Bool × Int) : D.den := ((), (x.2.1, (x.2.2.1, (x.2.2.2.1, (z.1, (z.2.1, z.2.2))))))
def un (x : D.den) : Int × Bool × Int := (x.2.2.2.2.1, x.2.2.2.2.2.1, x.2.2.2.2.2.2)
def body (x : D.den) (z : Int × Bool × Int) : Tr ((Int × Bool × Int) ⊕ ((Int × Bool) ⊕ (Int × Int))) := t x.2.1 x.2.2.1 x.2.2.2.1 z.1 z.2.1 z.2.2
theorem ok : LapOk Try.prog 0 (codeOf Try.prog 109) lap := tlap2_ok Base.mixed Base.prog_ok q46 (by kernel_rfl) (by kernel_rfl) LapsOk.nil 9 pk un body (fun _ _ => rfl) (fun _ _ => rfl) (fun _ _ => rfl) (fun _ _ => rfl) (fun _ => rfl) fun _ _ _ _ => (by kernel_rfl)
end L6
def A : Dom := ⟨[], (.tup (.cat (.int .i64) (.int .i64)))⟩
def t (s : Ls) (base : Int) (most : Int) : Tr (Int × Int) :=
 .br (s == []) (.ret ((0 : Int), (22 : Int)))
 (.both (q4s.L6.f s base (mx2 most (0 : Int)) (0 : Int) false (0 : Int)) (fun (y1a, y1b) => .br y1b (.ret ((0 : Int), (23 : Int)))
  (.ret (y1a, (0 : Int))))
  (fun (y2a, y2b) => .ret (y2a, y2b)))
def f (s : Ls) (base : Int) (most : Int) : Option (Int × Int) := (t s base most).val
def F (x : D.den) : Option (Int × Int) := f x.2.1 x.2.2.1 x.2.2.2
def pa : D.den → (Int × Int) → A.den := fun (_, (_, (_, _))) (y1, y2) => ((), (y1, y2))
def con : Con := tcon D A pa F
theorem ok : ConOk Try.prog 109 con := tcon_ok Base.mixed Base.prog_ok q46 (by kernel_rfl) (.cons L6.ok (by kernel_rfl) (.nil)) 9 (fun _ => rfl) (fun x => t x.2.1 x.2.2.1 x.2.2.2) (fun _ => rfl) fun _ _ _ => (by kernel_rfl)
end q4s
def q4t : Book := q45.add 109 q4s.con
theorem q4u : BookOk Try.prog q4t := q46.add q4s.ok
namespace q3a
def D : Dom := ⟨[], (.cat .str (.int .i64))⟩
def A : Dom := ⟨[], (.tup (.cat (.int .i64) (.int .i64)))⟩
def t (s : Ls) (most : Int) : Tr (Int × Int) :=
 .call (q4s.f s (10 : Int) most) fun (y1a, y1b) =>
 .ret (y1a, y1b)
def f (s : Ls) (most : Int) : Option (Int × Int) := (t s most).val
def F (x : D.den) : Option (Int × Int) := f x.2.1 x.2.2
def pa : D.den → (Int × Int) → A.den := fun (_, (_, _)) (y1, y2) => ((), (y1, y2))
def con : Con := tcon D A pa F
theorem ok : ConOk Try.prog 103 con := tcon_ok Base.mixed Base.prog_ok q4u (by kernel_rfl) LapsOk.nil 9 (fun _ => rfl) (fun x => t x.2.1 x.2.2) (fun _ => rfl) fun _ _ _ => (by kernel_rfl)
end q3a
def q3b : Book := q4t.add 103 q3a.con
theorem q3c : BookOk Try.prog q3b := q4u.add q3a.ok
namespace q5a
def D : Dom := ⟨[], .str⟩
namespace L5
def D : Dom := ⟨[.vec .str 9 false], (.cat (.sl 0 1) (.int .i64))⟩
def A : Dom := ⟨[.vec .str 9 false], (.sl 0 1)⟩
def B : Dom := ⟨[], .bool⟩
def t (l : List (Ls)) (i : Int) : Tr ((Int) ⊕ ((Unit) ⊕ (Bool))) :=
 .chk ((0 : Int) ≤ (0 : Int) ∧ (0 : Int) < (↑l.length : Int)) <| .chk ((0 : Nat) < l.length) <| .br (decide (i < (↑(List.length (l.getD (0 : Nat) [])) : Int))) (.chk ((0 : Int) ≤ (0 : Int) ∧ (0 : Int) < (↑l.length : Int)) <| .chk ((0 : Nat) < l.length) <| .chk ((0 : Int) ≤ i ∧ i < (↑(List.length (l.getD (0 : Nat) [])) : Int)) <| .call (q3s.f (↑(List.getD (l.getD (0 : Nat) []) i.toNat (0 : UInt8)).toNat : Int)) fun y1 =>
  .br (!y1) (.call (q3d.f (↑(List.getD (l.getD (0 : Nat) []) i.toNat (0 : UInt8)).toNat : Int)) fun y2 =>
  .br (!y2) (.br ((↑(List.getD (l.getD (0 : Nat) []) i.toNat (0 : UInt8)).toNat : Int) != (45 : Int)) (.br ((↑(List.getD (l.getD (0 : Nat) []) i.toNat (0 : UInt8)).toNat : Int) != (46 : Int)) (.br ((↑(List.getD (l.getD (0 : Nat) []) i.toNat (0 : UInt8)).toNat : Int) != (95 : Int)) (.br ((↑(List.getD (l.getD (0 : Nat) []) i.toNat (0 : UInt8)).toNat : Int) != (126 : Int)) (.ret (.inr (.inr false)))
    (.okl l.length <| .ret (.inl (IntKind.i64.wrap (i + (1 : Int))))))
    (.okl l.length <| .ret (.inl (IntKind.i64.wrap (i + (1 : Int))))))
   (.okl l.length <| .ret (.inl (IntKind.i64.wrap (i + (1 : Int))))))
   (.okl l.length <| .ret (.inl (IntKind.i64.wrap (i + (1 : Int))))))
  (.okl l.length <| .ret (.inl (IntKind.i64.wrap (i + (1 : Int))))))
  (.okl l.length <| .ret (.inl (IntKind.i64.wrap (i + (1 : Int))))))
 (.okl l.length <| .ret (.inr (.inl ())))
def f (l : List (Ls)) (i : Int) : Option ((Unit) ⊕ (Bool)) := Loop (fun z : Int => t l z) i
def F (x : D.den) : Option ((Unit) ⊕ (Bool)) := f x.1.1 x.2.2
def pa : D.den → (Unit) → A.den := fun ((l, _), (_, _)) _ => ((l, ()), ())
def pb : D.den → (Bool) → B.den := fun ((_, _), (_, _)) y1 => ((), y1)
def lap : Lap := tlap2 5 83 [3, 4] D (.exit 0) [3] A .ret [2] B pa pb F
def pk (x : D.den) (z : Int) : D.den := ((x.1.1, ()), ((), z))
def un (x : D.den) : Int := x.2.2
def body (x : D.den) (z : Int) : Tr ((Int) ⊕ ((Unit) ⊕ (Bool))) := t x.1.1 z
theorem ok : LapOk Try.prog 0 (codeOf Try.prog 87) lap := tlap2_ok Base.mixed Base.prog_ok q3c (by kernel_rfl) (by kernel_rfl) LapsOk.nil 9 pk un body (fun _ _ => rfl) (fun _ _ => rfl) (fun _ _ => rfl) (fun _ _ => rfl) (fun _ => rfl) fun _ _ _ _ => (by kernel_rfl)
end L5
def A : Dom := ⟨[], .bool⟩
def t (s : Ls) : Tr (Bool) :=
 .call (q44.f s (58 : Int)) fun y1 =>
 .br (decide ((↑y1.length : Int) > (2 : Int))) (.ret false)
 (.chk ((0 : Int) ≤ (0 : Int) ∧ (0 : Int) < (↑y1.length : Int)) <| .chk ((0 : Nat) < y1.length) <| .br (decide ((↑(List.length (y1.getD (0 : Nat) [])) : Int) < (1 : Int))) (.ret false)
  (.chk ((0 : Int) ≤ (0 : Int) ∧ (0 : Int) < (↑y1.length : Int)) <| .chk ((0 : Nat) < y1.length) <| .br (decide ((↑(List.length (y1.getD (0 : Nat) [])) : Int) > (255 : Int))) (.ret false)
  (.okl y1.length <| .both (q5a.L5.f y1 (0 : Int)) (fun _ => .br ((↑y1.length : Int) == (1 : Int)) (.ret true)
   (.chk ((0 : Int) ≤ (1 : Int) ∧ (1 : Int) < (↑y1.length : Int)) <| .chk ((1 : Nat) < y1.length) <| .call (q3a.f (y1.getD (1 : Nat) []) (65535 : Int)) fun (_, y3b) =>
    .br (y3b == (0 : Int)) (.chk ((0 : Int) ≤ (1 : Int) ∧ (1 : Int) < (↑y1.length : Int)) <| .chk ((1 : Nat) < y1.length) <| .ret (decide ((↑(List.length (y1.getD (1 : Nat) [])) : Int) ≤ (5 : Int))))
    (.ret false)))
   (fun y4 => .ret y4))))
def f (s : Ls) : Option (Bool) := (t s).val
def F (x : D.den) : Option (Bool) := f x.2
def pa : D.den → (Bool) → A.den := fun (_, _) y1 => ((), y1)
def con : Con := tcon D A pa F
theorem ok : ConOk Try.prog 87 con := tcon_ok Base.mixed Base.prog_ok q3c (by kernel_rfl) (.cons L5.ok (by kernel_rfl) (.nil)) 9 (fun _ => rfl) (fun x => t x.2) (fun _ => rfl) fun _ _ _ => (by kernel_rfl)
end q5a
def q5b : Book := q3b.add 87 q5a.con
theorem q5c : BookOk Try.prog q5b := q3c.add q5a.ok
namespace q6d
def D : Dom := ⟨[], .str⟩
namespace L2
def D : Dom := ⟨[], (.cat .str (.int .i64))⟩
def A : Dom := ⟨[], .nil⟩
def B : Dom := ⟨[], .bool⟩
def t (s : Ls) (i : Int) : Tr ((Int) ⊕ ((Unit) ⊕ (Bool))) :=
 .br (decide (i < (↑s.length : Int))) (.chk ((0 : Int) ≤ i ∧ i < (↑s.length : Int)) <| .br ((↑(s.getD i.toNat (0 : UInt8)).toNat : Int) == (58 : Int)) (.ret (.inr (.inr true)))
  (.ret (.inl (IntKind.i64.wrap (i + (1 : Int))))))
 (.ret (.inr (.inl ())))
def f (s : Ls) (i : Int) : Option ((Unit) ⊕ (Bool)) := Loop (fun z : Int => t s z) i
def F (x : D.den) : Option ((Unit) ⊕ (Bool)) := f x.2.1 x.2.2
def pa : D.den → (Unit) → A.den := fun (_, (_, _)) _ => ((), ())
def pb : D.den → (Bool) → B.den := fun (_, (_, _)) y1 => ((), y1)
def lap : Lap := tlap2 2 14 [0, 3] D (.exit 0) [] A .ret [2] B pa pb F
def pk (x : D.den) (z : Int) : D.den := ((), (x.2.1, z))
def un (x : D.den) : Int := x.2.2
def body (x : D.den) (z : Int) : Tr ((Int) ⊕ ((Unit) ⊕ (Bool))) := t x.2.1 z
theorem ok : LapOk Try.prog 0 (codeOf Try.prog 88) lap := tlap2_ok Base.mixed Base.prog_ok q5c (by kernel_rfl) (by kernel_rfl) LapsOk.nil 9 pk un body (fun _ _ => rfl) (fun _ _ => rfl) (fun _ _ => rfl) (fun _ _ => rfl) (fun _ => rfl) fun _ _ _ _ => (by kernel_rfl)
end L2
def A : Dom := ⟨[], .bool⟩
def t (s : Ls) : Tr (Bool) :=
 .both (q6d.L2.f s (0 : Int)) (fun _ => .ret false)
 (fun y2 => .ret y2)
def f (s : Ls) : Option (Bool) := (t s).val
def F (x : D.den) : Option (Bool) := f x.2
def pa : D.den → (Bool) → A.den := fun (_, _) y1 => ((), y1)
def con : Con := tcon D A pa F
theorem ok : ConOk Try.prog 88 con := tcon_ok Base.mixed Base.prog_ok q5c (by kernel_rfl) (.cons L2.ok (by kernel_rfl) (.nil)) 9 (fun _ => rfl) (fun x => t x.2) (fun _ => rfl) fun _ _ _ => (by kernel_rfl)
end q6d
def q6e : Book := q5b.add 88 q6d.con
theorem q6f : BookOk Try.prog q6e := q5c.add q6d.ok
namespace q3y
def D : Dom := ⟨[], .str⟩
namespace L3
def D : Dom := ⟨[.vec .byte 5 false], (.cat (.sl 0 1) (.int .i64))⟩
def A : Dom := ⟨[.vec .byte 5 false], (.sl 0 1)⟩
def t (b : Ls) (i : Int) : Tr ((Ls × Int) ⊕ (Ls)) :=
 .br (decide (i < (↑b.length : Int))) (.chk ((0 : Int) ≤ i ∧ i < (↑b.length : Int)) <| .chk ((0 : Nat) + i.toNat < b.length) <| .br (decide ((↑(UInt8.toNat (b.getD ((0 : Nat) + i.toNat) (0 : UInt8))) : Int) ≥ (65 : Int))) (.chk ((0 : Int) ≤ i ∧ i < (↑b.length : Int)) <| .chk ((0 : Nat) + i.toNat < b.length) <| .br (decide ((↑(UInt8.toNat (b.getD ((0 : Nat) + i.toNat) (0 : UInt8))) : Int) ≤ (90 : Int))) (.chk ((0 : Int) ≤ i ∧ i < (↑b.length : Int)) <| .chk ((0 : Nat) + i.toNat < b.length) <| .chk ((0 : Int) ≤ i ∧ i < (↑b.length : Int)) <| .chk ((0 : Nat) + i.toNat < b.length) <| .chk ((0 : Int) ≤ IntKind.u8.wrap ((↑(UInt8.toNat (b.getD ((0 : Nat) + i.toNat) (0 : UInt8))) : Int) + (32 : Int)) ∧ IntKind.u8.wrap ((↑(UInt8.toNat (b.getD ((0 : Nat) + i.toNat) (0 : UInt8))) : Int) + (32 : Int)) < (256 : Int)) <| .chk ((0 : Nat) = (0 : Nat) ∧ b.length = (b.set ((0 : Nat) + i.toNat) (UInt8.ofNat (IntKind.u8.wrap ((↑(UInt8.toNat (b.getD ((0 : Nat) + i.toNat) (0 : UInt8))) : Int) + (32 : Int))).toNat)).length) <| .ret (.inl (b.set ((0 : Nat) + i.toNat) (UInt8.ofNat (IntKind.u8.wrap ((↑(UInt8.toNat (b.getD ((0 : Nat) + i.toNat) (0 : UInt8))) : Int) + (32 : Int))).toNat), IntKind.i64.wrap (i + (1 : Int)))))
  (.okl b.length <| .ret (.inl (b, IntKind.i64.wrap (i + (1 : Int))))))
  (.okl b.length <| .ret (.inl (b, IntKind.i64.wrap (i + (1 : Int))))))
 (.okl b.length <| .ret (.inr b))
def f (b : Ls) (i : Int) : Option (Ls) := Loop (fun z : Ls × Int => t z.1 z.2) (b, i)
def F (x : D.den) : Option (Ls) := f x.1.1 x.2.2
def pa : D.den → (Ls) → A.den := fun ((_, _), (_, _)) y1 => ((y1, ()), ())
def lap : Lap := tlap 3 33 [3, 4] D (.exit 0) [3] A pa F
def pk (x : D.den) (z : Ls × Int) : D.den := ((z.1, ()), ((), z.2))
def un (x : D.den) : Ls × Int := (x.1.1, x.2.2)
def body (x : D.den) (z : Ls × Int) : Tr ((Ls × Int) ⊕ (Ls)) := t z.1 z.2
theorem ok : LapOk Try.prog 0 (codeOf Try.prog 104) lap := tlap_ok Base.mixed Base.prog_ok q6f (by kernel_rfl) (by kernel_rfl) LapsOk.nil 9 pk un body (fun _ _ => rfl) (fun _ _ => rfl) (fun _ _ => rfl) (fun _ => rfl) fun _ _ _ _ => (by kernel_rfl)
end L3
def A : Dom := ⟨[], .str⟩
def t (s : Ls) : Tr (Ls) :=
 .chk (s.length ≤ (140737488355328 : Nat)) <| .chk ((0 : Nat) = (0 : Nat) ∧ s.length = ([] ++ s).length) <| .call (q3y.L3.f ([] ++ s) (0 : Int)) fun y1 =>
 .chk ((0 : Nat) + y1.length ≤ y1.length) <| .ret (List.take y1.length (List.drop (0 : Nat) y1))
def f (s : Ls) : Option (Ls) := (t s).val
def F (x : D.den) : Option (Ls) := f x.2
def pa : D.den → (Ls) → A.den := fun (_, _) y1 => ((), y1)
def con : Con := tcon D A pa F
theorem ok : ConOk Try.prog 104 con := tcon_ok Base.mixed Base.prog_ok q6f (by kernel_rfl) (.cons L3.ok (by kernel_rfl) (.nil)) 9 (fun _ => rfl) (fun x => t x.2) (fun _ => rfl) fun _ _ _ => (by kernel_rfl)
end q3y
def q3z : Book := q6e.add 104 q3y.con
theorem q40 : BookOk Try.prog q3z := q6f.add q3y.ok
namespace q41
def D : Dom := ⟨[], (.cat .str .str)⟩
def A : Dom := ⟨[], .bool⟩
def t (va : Ls) (b : Ls) : Tr (Bool) :=
 .call (q3y.f va) fun y1 =>
 .call (q3y.f b) fun y2 =>
 .ret (y1 == y2)
def f (va : Ls) (b : Ls) : Option (Bool) := (t va b).val
def F (x : D.den) : Option (Bool) := f x.2.1 x.2.2
def pa : D.den → (Bool) → A.den := fun (_, (_, _)) y1 => ((), y1)
def con : Con := tcon D A pa F
theorem ok : ConOk Try.prog 89 con := tcon_ok Base.mixed Base.prog_ok q40 (by kernel_rfl) LapsOk.nil 9 (fun _ => rfl) (fun x => t x.2.1 x.2.2) (fun _ => rfl) fun _ _ _ => (by kernel_rfl)
end q41
def q42 : Book := q3z.add 89 q41.con
theorem q43 : BookOk Try.prog q42 := q40.add q41.ok
namespace q61
def D : Dom := ⟨[], (.cat .str .str)⟩
namespace L7
def D : Dom := ⟨[], (.cat .str (.cat .str (.cat (.int .i64) (.cat (.int .u8) (.cat .bool (.int .i64))))))⟩
def A : Dom := ⟨[], (.cat .str (.cat .str (.cat (.int .i64) (.cat (.int .u8) .bool))))⟩
def t (more : Ls) (c : Int) (ok : Bool) (k : Int) : Tr ((Bool × Int) ⊕ (Bool)) :=
 .br (decide (k < (↑more.length : Int))) (.br ok (.ret (.inl (true, IntKind.i64.wrap (k + (1 : Int)))))
  (.chk ((0 : Int) ≤ k ∧ k < (↑more.length : Int)) <| .ret (.inl (c == (↑(more.getD k.toNat (0 : UInt8)).toNat : Int), IntKind.i64.wrap (k + (1 : Int))))))
 (.ret (.inr ok))
def f (more : Ls) (c : Int) (ok : Bool) (k : Int) : Option (Bool) := Loop (fun z : Bool × Int => t more c z.1 z.2) (ok, k)
def F (x : D.den) : Option (Bool) := f x.2.2.1 x.2.2.2.2.1 x.2.2.2.2.2.1 x.2.2.2.2.2.2
def pa : D.den → (Bool) → A.den := fun (_, (s, (more, (i, (c, (_, _)))))) y1 => ((), (s, (more, (i, (c, y1)))))
def lap : Lap := tlap 7 73 [0, 1, 5, 6, 7, 8] D (.exit 2) [0, 1, 5, 6, 7] A pa F
def pk (x : D.den) (z : Bool × Int) : D.den := ((), (x.2.1, (x.2.2.1, (x.2.2.2.1, (x.2.2.2.2.1, (z.1, z.2))))))
def un (x : D.den) : Bool × Int := (x.2.2.2.2.2.1, x.2.2.2.2.2.2)
def body (x : D.den) (z : Bool × Int) : Tr ((Bool × Int) ⊕ (Bool)) := t x.2.2.1 x.2.2.2.2.1 z.1 z.2
theorem ok : LapOk Try.prog 0 (codeOf Try.prog 111) lap := tlap_ok Base.mixed Base.prog_ok q43 (by kernel_rfl) (by kernel_rfl) LapsOk.nil 9 pk un body (fun _ _ => rfl) (fun _ _ => rfl) (fun _ _ => rfl) (fun _ => rfl) fun _ _ _ _ => (by kernel_rfl)
end L7
namespace L2
def D : Dom := ⟨[], (.cat .str (.cat .str (.int .i64)))⟩
def A : Dom := ⟨[], .nil⟩
def B : Dom := ⟨[], .bool⟩
def t (s : Ls) (more : Ls) (i : Int) : Tr ((Int) ⊕ ((Unit) ⊕ (Bool))) :=
 .br (decide (i < (↑s.length : Int))) (.chk ((0 : Int) ≤ i ∧ i < (↑s.length : Int)) <| .call (q3s.f (↑(s.getD i.toNat (0 : UInt8)).toNat : Int)) fun y1 =>
  .br y1 (.call (q61.L7.f more (↑(s.getD i.toNat (0 : UInt8)).toNat : Int) true (0 : Int)) fun y2 =>
  .br ((↑(s.getD i.toNat (0 : UInt8)).toNat : Int) == (37 : Int)) (.br (decide (IntKind.i64.wrap ((↑s.length : Int) - i) > (2 : Int))) (.chk ((0 : Int) ≤ IntKind.i64.wrap (i + (1 : Int)) ∧ IntKind.i64.wrap (i + (1 : Int)) < (↑s.length : Int)) <| .call (q3m.f (↑(s.getD (IntKind.i64.wrap (i + (1 : Int))).toNat (0 : UInt8)).toNat : Int)) fun (_, y3b) =>
   .chk ((0 : Int) ≤ IntKind.i64.wrap (i + (2 : Int)) ∧ IntKind.i64.wrap (i + (2 : Int)) < (↑s.length : Int)) <| .call (q3m.f (↑(s.getD (IntKind.i64.wrap (i + (2 : Int))).toNat (0 : UInt8)).toNat : Int)) fun (_, y4b) =>
   .br y3b (.br (!y4b) (.ret (.inr (.inr false)))
    (.ret (.inl (IntKind.i64.wrap (i + (1 : Int))))))
   (.ret (.inr (.inr false))))
   (.br (!y2) (.ret (.inr (.inr false)))
   (.ret (.inl (IntKind.i64.wrap (i + (1 : Int)))))))
  (.br (!y2) (.ret (.inr (.inr false)))
   (.ret (.inl (IntKind.i64.wrap (i + (1 : Int)))))))
  (.call (q3d.f (↑(s.getD i.toNat (0 : UInt8)).toNat : Int)) fun y5 =>
  .call (q61.L7.f more (↑(s.getD i.toNat (0 : UInt8)).toNat : Int) y5 (0 : Int)) fun y6 =>
  .br ((↑(s.getD i.toNat (0 : UInt8)).toNat : Int) == (37 : Int)) (.br (decide (IntKind.i64.wrap ((↑s.length : Int) - i) > (2 : Int))) (.chk ((0 : Int) ≤ IntKind.i64.wrap (i + (1 : Int)) ∧ IntKind.i64.wrap (i + (1 : Int)) < (↑s.length : Int)) <| .call (q3m.f (↑(s.getD (IntKind.i64.wrap (i + (1 : Int))).toNat (0 : UInt8)).toNat : Int)) fun (_, y7b) =>
   .chk ((0 : Int) ≤ IntKind.i64.wrap (i + (2 : Int)) ∧ IntKind.i64.wrap (i + (2 : Int)) < (↑s.length : Int)) <| .call (q3m.f (↑(s.getD (IntKind.i64.wrap (i + (2 : Int))).toNat (0 : UInt8)).toNat : Int)) fun (_, y8b) =>
   .br y7b (.br (!y8b) (.ret (.inr (.inr false)))
    (.ret (.inl (IntKind.i64.wrap (i + (1 : Int))))))
   (.ret (.inr (.inr false))))
   (.br (!y6) (.ret (.inr (.inr false)))
   (.ret (.inl (IntKind.i64.wrap (i + (1 : Int)))))))
  (.br (!y6) (.ret (.inr (.inr false)))
   (.ret (.inl (IntKind.i64.wrap (i + (1 : Int))))))))
 (.ret (.inr (.inl ())))
def f (s : Ls) (more : Ls) (i : Int) : Option ((Unit) ⊕ (Bool)) := Loop (fun z : Int => t s more z) i
def F (x : D.den) : Option ((Unit) ⊕ (Bool)) := f x.2.1 x.2.2.1 x.2.2.2
def pa : D.den → (Unit) → A.den := fun (_, (_, (_, _))) _ => ((), ())
def pb : D.den → (Bool) → B.den := fun (_, (_, (_, _))) y1 => ((), y1)
def lap : Lap := tlap2 2 73 [0, 1, 5] D (.exit 0) [] A .ret [4] B pa pb F
def pk (x : D.den) (z : Int) : D.den := ((), (x.2.1, (x.2.2.1, z)))
def un (x : D.den) : Int := x.2.2.2
def body (x : D.den) (z : Int) : Tr ((Int) ⊕ ((Unit) ⊕ (Bool))) := t x.2.1 x.2.2.1 z
theorem ok : LapOk Try.prog 0 (codeOf Try.prog 111) lap := tlap2_ok Base.mixed Base.prog_ok q43 (by kernel_rfl) (by kernel_rfl) (.cons L7.ok (by kernel_rfl) (.nil)) 9 pk un body (fun _ _ => rfl) (fun _ _ => rfl) (fun _ _ => rfl) (fun _ _ => rfl) (fun _ => rfl) fun _ _ _ _ => (by kernel_rfl)
end L2
def A : Dom := ⟨[], .bool⟩
def t (s : Ls) (more : Ls) : Tr (Bool) :=
 .both (q61.L2.f s more (0 : Int)) (fun _ => .ret true)
 (fun y2 => .ret y2)
def f (s : Ls) (more : Ls) : Option (Bool) := (t s more).val
def F (x : D.den) : Option (Bool) := f x.2.1 x.2.2
def pa : D.den → (Bool) → A.den := fun (_, (_, _)) y1 => ((), y1)
def con : Con := tcon D A pa F
theorem ok : ConOk Try.prog 111 con := tcon_ok Base.mixed Base.prog_ok q43 (by kernel_rfl) (.cons L7.ok (by kernel_rfl) (.cons L2.ok (by kernel_rfl) (.nil))) 9 (fun _ => rfl) (fun x => t x.2.1 x.2.2) (fun _ => rfl) fun _ _ _ => (by kernel_rfl)
end q61
def q62 : Book := q42.add 111 q61.con
theorem q63 : BookOk Try.prog q62 := q43.add q61.ok
end Go.Vx
end
section
set_option maxRecDepth 1000000
set_option linter.unusedVariables false
namespace Go.Vx
open Go Go.Vx Go.Proofs
namespace q5g
def D : Dom := ⟨[], .str⟩
def A : Dom := ⟨[], .bool⟩
def t (s : Ls) : Tr (Bool) :=
 .br (!s == []) (.chk ((0 : Int) ≤ (0 : Int) ∧ (0 : Int) < (↑s.length : Int)) <| .br ((↑(s.getD (Int.toNat (0 : Int)) (0 : UInt8)).toNat : Int) == (47 : Int)) (.call (q61.f s [(45 : UInt8), 46, 95, 126, 33, 36, 38, 39, 40, 41, 42, 43, 44, 59, 61, 58, 64, 47]) fun y1 =>
  .ret y1)
  (.ret false))
 (.ret false)
def f (s : Ls) : Option (Bool) := (t s).val
def F (x : D.den) : Option (Bool) := f x.2
def pa : D.den → (Bool) → A.den := fun (_, _) y1 => ((), y1)
def con : Con := tcon D A pa F
theorem ok : ConOk Try.prog 105 con := tcon_ok Base.mixed Base.prog_ok q63 (by kernel_rfl) LapsOk.nil 9 (fun _ => rfl) (fun x => t x.2) (fun _ => rfl) fun _ _ _ => (by kernel_rfl)
end q5g
def q5h : Book := q62.add 105 q5g.con
theorem q5i : BookOk Try.prog q5h := q63.add q5g.ok
namespace q5j
def D : Dom := ⟨[], .str⟩
def A : Dom := ⟨[], .bool⟩
def t (s : Ls) : Tr (Bool) :=
 .call (q61.f s [(45 : UInt8), 46, 95, 126, 33, 36, 38, 39, 40, 41, 42, 43, 44, 59, 61, 58, 64, 47, 63]) fun y1 =>
 .ret y1
def f (s : Ls) : Option (Bool) := (t s).val
def F (x : D.den) : Option (Bool) := f x.2
def pa : D.den → (Bool) → A.den := fun (_, _) y1 => ((), y1)
def con : Con := tcon D A pa F
theorem ok : ConOk Try.prog 106 con := tcon_ok Base.mixed Base.prog_ok q5i (by kernel_rfl) LapsOk.nil 9 (fun _ => rfl) (fun x => t x.2) (fun _ => rfl) fun _ _ _ => (by kernel_rfl)
end q5j
def q5k : Book := q5h.add 106 q5j.con
theorem q5l : BookOk Try.prog q5k := q5i.add q5j.ok
namespace q64
def D : Dom := ⟨[], .str⟩
namespace L3
def D : Dom := ⟨[.cells (.cat (.int .i64) (.cat .str (.cat .str (.cat .str .bool)))) 111 false, .cells (.cat (.int .i64) (.cat .str (.cat .str (.cat .str .bool)))) 111 false], (.cat .str (.cat (.ptr 0 0 0 0) (.cat (.ptr 1 0 0 0) (.int .i64))))⟩
def A : Dom := ⟨[.cells (.cat (.int .i64) (.cat .str (.cat .str (.cat .str .bool)))) 111 false, .cells (.cat (.int .i64) (.cat .str (.cat .str (.cat .str .bool)))) 111 false], (.cat (.ptr 0 0 0 0) (.ptr 1 0 0 0))⟩
def t (Path_2 : Ls) (Query_2 : Ls) (Asked_2 : Bool) (s : Ls) (i : Int) : Tr ((Int) ⊕ (Ls × Ls × Bool)) :=
 .br (decide (i < (↑s.length : Int))) (.chk ((0 : Int) ≤ i ∧ i < (↑s.length : Int)) <| .br ((↑(s.getD i.toNat (0 : UInt8)).toNat : Int) == (63 : Int)) (.chk ((0 : Int) ≤ (0 : Int) ∧ (0 : Int) ≤ i ∧ i ≤ (↑s.length : Int)) <| .chk ((0 : Int) ≤ IntKind.i64.wrap (i + (1 : Int)) ∧ IntKind.i64.wrap (i + (1 : Int)) ≤ (↑s.length : Int) ∧ (↑s.length : Int) ≤ (↑s.length : Int)) <| .ret (.inr (List.drop (↑(0 : Nat) : Int).toNat (List.take i.toNat s), List.drop (IntKind.i64.wrap (i + (1 : Int))).toNat (List.take (↑s.length : Int).toNat s), true)))
  (.ret (.inl (IntKind.i64.wrap (i + (1 : Int))))))
 (.ret (.inr (Path_2, Query_2, Asked_2)))
def f (Path_2 : Ls) (Query_2 : Ls) (Asked_2 : Bool) (s : Ls) (i : Int) : Option (Ls × Ls × Bool) := Loop (fun z : Int => t Path_2 Query_2 Asked_2 s z) i
def F (x : D.den) : Option (Ls × Ls × Bool) := f x.1.2.1.2.2.1 x.1.2.1.2.2.2.1 x.1.2.1.2.2.2.2 x.2.1 x.2.2.2.2
def pa : D.den → (Ls × Ls × Bool) → A.den := fun (((Form, (Host, (Path, (Query, Asked)))), ((Form_2, (Host_2, (_, (_, _)))), _)), (_, (_, (_, _)))) (y1, y2, y3) => (((Form, (Host, (Path, (Query, Asked)))), ((Form_2, (Host_2, (y1, (y2, y3)))), ())), ((), ()))
def lap : Lap := tlap 3 37 [0, 2, 4, 5] D (.exit 0) [2, 4] A pa F
def pk (x : D.den) (z : Int) : D.den := (((x.1.1.1, (x.1.1.2.1, (x.1.1.2.2.1, (x.1.1.2.2.2.1, x.1.1.2.2.2.2)))), ((x.1.2.1.1, (x.1.2.1.2.1, (x.1.2.1.2.2.1, (x.1.2.1.2.2.2.1, x.1.2.1.2.2.2.2)))), ())), (x.2.1, ((), ((), z))))
def un (x : D.den) : Int := x.2.2.2.2
def body (x : D.den) (z : Int) : Tr ((Int) ⊕ (Ls × Ls × Bool)) := t x.1.2.1.2.2.1 x.1.2.1.2.2.2.1 x.1.2.1.2.2.2.2 x.2.1 z
theorem ok : LapOk Try.prog 0 (codeOf Try.prog 90) lap := tlap_ok Base.mixed Base.prog_ok q5l (by kernel_rfl) (by kernel_rfl) LapsOk.nil 9 pk un body (fun _ _ => rfl) (fun _ _ => rfl) (fun _ _ => rfl) (fun _ => rfl) fun _ _ _ _ => (by kernel_rfl)
end L3
def A : Dom := ⟨[], (.tup (.cat (.agg (.cat (.int .i64) (.cat .str (.cat .str (.cat .str .bool))))) .bool))⟩
def t (s : Ls) : Tr (Int × Ls × Ls × Ls × Bool × Bool) :=
 .call (q64.L3.f s [] false s (0 : Int)) fun (y1a, y1b, y1c) =>
 .call (q5g.f y1a) fun y2 =>
 .br y2 (.call (q5j.f y1b) fun y3 =>
  .ret ((0 : Int), [], y1a, y1b, y1c, y3))
 (.ret ((0 : Int), [], y1a, y1b, y1c, false))
def f (s : Ls) : Option (Int × Ls × Ls × Ls × Bool × Bool) := (t s).val
def F (x : D.den) : Option (Int × Ls × Ls × Ls × Bool × Bool) := f x.2
def pa : D.den → (Int × Ls × Ls × Ls × Bool × Bool) → A.den := fun (_, _) (y1, y2, y3, y4, y5, y6) => ((), ((y1, (y2, (y3, (y4, y5)))), y6))
def con : Con := tcon D A pa F
theorem ok : ConOk Try.prog 90 con := tcon_ok Base.mixed Base.prog_ok q5l (by kernel_rfl) (.cons L3.ok (by kernel_rfl) (.nil)) 9 (fun _ => rfl) (fun x => t x.2) (fun _ => rfl) fun _ _ _ => (by kernel_rfl)
end q64
def q65 : Book := q5k.add 90 q64.con
theorem q66 : BookOk Try.prog q65 := q5l.add q64.ok
namespace q5y
def D : Dom := ⟨[], (.cat .str .str)⟩
namespace L10
def D : Dom := ⟨[.cells (.cat (.int .i64) (.cat .str (.cat .str (.cat .str .bool)))) 111 false], (.cat .str (.cat (.ptr 0 0 0 0) (.int .i64)))⟩
def A : Dom := q5y.L10.D
def t (s : Ls) (k : Int) : Tr ((Int) ⊕ (Int)) :=
 .br (decide (k < (↑s.length : Int))) (.chk ((0 : Int) ≤ k ∧ k < (↑s.length : Int)) <| .br ((↑(s.getD k.toNat (0 : UInt8)).toNat : Int) != (47 : Int)) (.chk ((0 : Int) ≤ k ∧ k < (↑s.length : Int)) <| .br ((↑(s.getD k.toNat (0 : UInt8)).toNat : Int) != (63 : Int)) (.ret (.inl (IntKind.i64.wrap (k + (1 : Int)))))
  (.ret (.inr k)))
  (.ret (.inr k)))
 (.ret (.inr k))
def f (s : Ls) (k : Int) : Option (Int) := Loop (fun z : Int => t s z) k
def F (x : D.den) : Option (Int) := f x.2.1 x.2.2.2
def pa : D.den → (Int) → A.den := fun (((Form, (Host, (Path, (Query, Asked)))), _), (s, (_, _))) y1 => (((Form, (Host, (Path, (Query, Asked)))), ()), (s, ((), y1)))
def lap : Lap := tlap 10 89 [1, 4, 8] D (.exit 0) [1, 4, 8] A pa F
def pk (x : D.den) (z : Int) : D.den := (((x.1.1.1, (x.1.1.2.1, (x.1.1.2.2.1, (x.1.1.2.2.2.1, x.1.1.2.2.2.2)))), ()), (x.2.1, ((), z)))
def un (x : D.den) : Int := x.2.2.2
def body (x : D.den) (z : Int) : Tr ((Int) ⊕ (Int)) := t x.2.1 z
theorem ok : LapOk Try.prog 0 (codeOf Try.prog 75) lap := tlap_ok Base.mixed Base.prog_ok q66 (by kernel_rfl) (by kernel_rfl) LapsOk.nil 9 pk un body (fun _ _ => rfl) (fun _ _ => rfl) (fun _ _ => rfl) (fun _ => rfl) fun _ _ _ _ => (by kernel_rfl)
end L10
def A : Dom := ⟨[], (.tup (.cat (.agg (.cat (.int .i64) (.cat .str (.cat .str (.cat .str .bool))))) (.int .i64)))⟩
def t (method : Ls) (s : Ls) : Tr (Int × Ls × Ls × Ls × Bool × Int) :=
 .br (method == [(67 : UInt8), 79, 78, 78, 69, 67, 84]) (.call (q5a.f s) fun y1 =>
  .br (!y1) (.ret ((0 : Int), [], [], [], false, (400 : Int)))
  (.call (q6d.f s) fun y2 =>
  .br (!y2) (.ret ((0 : Int), [], [], [], false, (400 : Int)))
  (.ret ((3 : Int), s, [], [], false, (0 : Int)))))
 (.br (method == [(79 : UInt8), 80, 84, 73, 79, 78, 83]) (.br (s == [(42 : UInt8)]) (.ret ((4 : Int), [], [], [], false, (0 : Int)))
  (.br (decide ((↑s.length : Int) ≥ (7 : Int))) (.chk ((0 : Int) ≤ (0 : Int) ∧ (0 : Int) ≤ (7 : Int) ∧ (7 : Int) ≤ (↑s.length : Int)) <| .call (q41.f (List.drop (↑(0 : Nat) : Int).toNat (List.take (Int.toNat (7 : Int)) s)) [(104 : UInt8), 116, 116, 112, 58, 47, 47]) fun y3 =>
   .br y3 (.call (q5y.L10.f s (7 : Int)) fun y4 =>
    .chk ((0 : Int) ≤ (7 : Int) ∧ (7 : Int) ≤ y4 ∧ y4 ≤ (↑s.length : Int)) <| .chk ((0 : Int) ≤ y4 ∧ y4 ≤ (↑s.length : Int) ∧ (↑s.length : Int) ≤ (↑s.length : Int)) <| .call (q5a.f (List.drop (Int.toNat (7 : Int)) (List.take y4.toNat s))) fun y5 =>
    .br (!y5) (.ret ((0 : Int), [], [], [], false, (400 : Int)))
    (.br (List.drop y4.toNat (List.take (↑s.length : Int).toNat s) == []) (.chk ((↑([(47 : UInt8)].length + (List.drop y4.toNat (List.take (↑s.length : Int).toNat s)).length) : Int) ≤ (9223372036854775807 : Int)) <| .call (q64.f ([(47 : UInt8)] ++ List.drop y4.toNat (List.take (↑s.length : Int).toNat s))) fun (_, _, y6c, y6d, y6e, y6f) =>
     .br (!y6f) (.ret ((0 : Int), [], [], [], false, (400 : Int)))
     (.ret ((2 : Int), List.drop (Int.toNat (7 : Int)) (List.take y4.toNat s), y6c, y6d, y6e, (0 : Int))))
    (.chk ((0 : Int) ≤ (0 : Int) ∧ (0 : Int) < (↑(List.drop y4.toNat (List.take (↑s.length : Int).toNat s)).length : Int)) <| .br ((↑((List.drop y4.toNat (List.take (↑s.length : Int).toNat s)).getD (Int.toNat (0 : Int)) (0 : UInt8)).toNat : Int) == (63 : Int)) (.chk ((↑([(47 : UInt8)].length + (List.drop y4.toNat (List.take (↑s.length : Int).toNat s)).length) : Int) ≤ (9223372036854775807 : Int)) <| .call (q64.f ([(47 : UInt8)] ++ List.drop y4.toNat (List.take (↑s.length : Int).toNat s))) fun (_, _, y7c, y7d, y7e, y7f) =>
     .br (!y7f) (.ret ((0 : Int), [], [], [], false, (400 : Int)))
     (.ret ((2 : Int), List.drop (Int.toNat (7 : Int)) (List.take y4.toNat s), y7c, y7d, y7e, (0 : Int))))
     (.call (q64.f (List.drop y4.toNat (List.take (↑s.length : Int).toNat s))) fun (_, _, y8c, y8d, y8e, y8f) =>
     .br (!y8f) (.ret ((0 : Int), [], [], [], false, (400 : Int)))
     (.ret ((2 : Int), List.drop (Int.toNat (7 : Int)) (List.take y4.toNat s), y8c, y8d, y8e, (0 : Int)))))))
   (.call (q64.f s) fun (_, _, y9c, y9d, y9e, y9f) =>
    .br (!y9f) (.ret ((0 : Int), [], [], [], false, (400 : Int)))
    (.ret ((1 : Int), [], y9c, y9d, y9e, (0 : Int)))))
   (.call (q64.f s) fun (_, _, y10c, y10d, y10e, y10f) =>
   .br (!y10f) (.ret ((0 : Int), [], [], [], false, (400 : Int)))
   (.ret ((1 : Int), [], y10c, y10d, y10e, (0 : Int))))))
  (.br (decide ((↑s.length : Int) ≥ (7 : Int))) (.chk ((0 : Int) ≤ (0 : Int) ∧ (0 : Int) ≤ (7 : Int) ∧ (7 : Int) ≤ (↑s.length : Int)) <| .call (q41.f (List.drop (↑(0 : Nat) : Int).toNat (List.take (Int.toNat (7 : Int)) s)) [(104 : UInt8), 116, 116, 112, 58, 47, 47]) fun y11 =>
   .br y11 (.call (q5y.L10.f s (7 : Int)) fun y12 =>
   .chk ((0 : Int) ≤ (7 : Int) ∧ (7 : Int) ≤ y12 ∧ y12 ≤ (↑s.length : Int)) <| .chk ((0 : Int) ≤ y12 ∧ y12 ≤ (↑s.length : Int) ∧ (↑s.length : Int) ≤ (↑s.length : Int)) <| .call (q5a.f (List.drop (Int.toNat (7 : Int)) (List.take y12.toNat s))) fun y13 =>
   .br (!y13) (.ret ((0 : Int), [], [], [], false, (400 : Int)))
   (.br (List.drop y12.toNat (List.take (↑s.length : Int).toNat s) == []) (.chk ((↑([(47 : UInt8)].length + (List.drop y12.toNat (List.take (↑s.length : Int).toNat s)).length) : Int) ≤ (9223372036854775807 : Int)) <| .call (q64.f ([(47 : UInt8)] ++ List.drop y12.toNat (List.take (↑s.length : Int).toNat s))) fun (_, _, y14c, y14d, y14e, y14f) =>
    .br (!y14f) (.ret ((0 : Int), [], [], [], false, (400 : Int)))
    (.ret ((2 : Int), List.drop (Int.toNat (7 : Int)) (List.take y12.toNat s), y14c, y14d, y14e, (0 : Int))))
    (.chk ((0 : Int) ≤ (0 : Int) ∧ (0 : Int) < (↑(List.drop y12.toNat (List.take (↑s.length : Int).toNat s)).length : Int)) <| .br ((↑((List.drop y12.toNat (List.take (↑s.length : Int).toNat s)).getD (Int.toNat (0 : Int)) (0 : UInt8)).toNat : Int) == (63 : Int)) (.chk ((↑([(47 : UInt8)].length + (List.drop y12.toNat (List.take (↑s.length : Int).toNat s)).length) : Int) ≤ (9223372036854775807 : Int)) <| .call (q64.f ([(47 : UInt8)] ++ List.drop y12.toNat (List.take (↑s.length : Int).toNat s))) fun (_, _, y15c, y15d, y15e, y15f) =>
     .br (!y15f) (.ret ((0 : Int), [], [], [], false, (400 : Int)))
     (.ret ((2 : Int), List.drop (Int.toNat (7 : Int)) (List.take y12.toNat s), y15c, y15d, y15e, (0 : Int))))
    (.call (q64.f (List.drop y12.toNat (List.take (↑s.length : Int).toNat s))) fun (_, _, y16c, y16d, y16e, y16f) =>
     .br (!y16f) (.ret ((0 : Int), [], [], [], false, (400 : Int)))
     (.ret ((2 : Int), List.drop (Int.toNat (7 : Int)) (List.take y12.toNat s), y16c, y16d, y16e, (0 : Int)))))))
   (.call (q64.f s) fun (_, _, y17c, y17d, y17e, y17f) =>
   .br (!y17f) (.ret ((0 : Int), [], [], [], false, (400 : Int)))
   (.ret ((1 : Int), [], y17c, y17d, y17e, (0 : Int)))))
  (.call (q64.f s) fun (_, _, y18c, y18d, y18e, y18f) =>
   .br (!y18f) (.ret ((0 : Int), [], [], [], false, (400 : Int)))
   (.ret ((1 : Int), [], y18c, y18d, y18e, (0 : Int))))))
def f (method : Ls) (s : Ls) : Option (Int × Ls × Ls × Ls × Bool × Int) := (t method s).val
def F (x : D.den) : Option (Int × Ls × Ls × Ls × Bool × Int) := f x.2.1 x.2.2
def pa : D.den → (Int × Ls × Ls × Ls × Bool × Int) → A.den := fun (_, (_, _)) (y1, y2, y3, y4, y5, y6) => ((), ((y1, (y2, (y3, (y4, y5)))), y6))
def con : Con := tcon D A pa F
theorem ok : ConOk Try.prog 75 con := tcon_ok Base.mixed Base.prog_ok q66 (by kernel_rfl) (.cons L10.ok (by kernel_rfl) (.nil)) 9 (fun _ => rfl) (fun x => t x.2.1 x.2.2) (fun _ => rfl) fun _ _ _ => (by kernel_rfl)
end q5y
def q5z : Book := q65.add 75 q5y.con
theorem q60 : BookOk Try.prog q5z := q66.add q5y.ok
namespace q6j
def D : Dom := ⟨[], (.cat .str (.int .u32))⟩
def A : Dom := ⟨[], (.tup (.cat (.int .i64) .bool))⟩
def t (s : Ls) (p : Int) : Tr (Int × Bool) :=
 .br ((↑s.length : Int) != (8 : Int)) (.ret ((0 : Int), false))
 (.chk ((0 : Int) ≤ (7 : Int) ∧ (7 : Int) < (↑s.length : Int)) <| .call (q3d.f (↑(s.getD (Int.toNat (7 : Int)) (0 : UInt8)).toNat : Int)) fun y1 =>
  .br (!y1) (.ret ((0 : Int), false))
  (.chk ((0 : Int) ≤ (0 : Int) ∧ (0 : Int) ≤ (7 : Int) ∧ (7 : Int) ≤ (↑s.length : Int)) <| .br (!List.drop (↑(0 : Nat) : Int).toNat (List.take (Int.toNat (7 : Int)) s) == [(72 : UInt8), 84, 84, 80, 47, 49, 46]) (.call (q4v.f p (5 : Int)) fun y2 =>
   .br y2 (.chk ((0 : Int) ≤ (0 : Int) ∧ (0 : Int) ≤ (7 : Int) ∧ (7 : Int) ≤ (↑s.length : Int)) <| .call (q41.f (List.drop (↑(0 : Nat) : Int).toNat (List.take (Int.toNat (7 : Int)) s)) [(72 : UInt8), 84, 84, 80, 47, 49, 46]) fun y3 =>
   .br (!y3) (.ret ((0 : Int), false))
   (.chk ((0 : Int) ≤ (7 : Int) ∧ (7 : Int) < (↑s.length : Int)) <| .br ((↑(s.getD (Int.toNat (7 : Int)) (0 : UInt8)).toNat : Int) == (48 : Int)) (.ret ((0 : Int), true))
    (.br ((↑(s.getD (Int.toNat (7 : Int)) (0 : UInt8)).toNat : Int) == (49 : Int)) (.ret ((1 : Int), true))
    (.call (q4v.f p (4 : Int)) fun y4 =>
     .ret ((1 : Int), y4)))))
   (.ret ((0 : Int), false)))
  (.chk ((0 : Int) ≤ (7 : Int) ∧ (7 : Int) < (↑s.length : Int)) <| .br ((↑(s.getD (Int.toNat (7 : Int)) (0 : UInt8)).toNat : Int) == (48 : Int)) (.ret ((0 : Int), true))
   (.br ((↑(s.getD (Int.toNat (7 : Int)) (0 : UInt8)).toNat : Int) == (49 : Int)) (.ret ((1 : Int), true))
   (.call (q4v.f p (4 : Int)) fun y5 =>
    .ret ((1 : Int), y5))))))
def f (s : Ls) (p : Int) : Option (Int × Bool) := (t s p).val
def F (x : D.den) : Option (Int × Bool) := f x.2.1 x.2.2
def pa : D.den → (Int × Bool) → A.den := fun (_, (_, _)) (y1, y2) => ((), (y1, y2))
def con : Con := tcon D A pa F
theorem ok : ConOk Try.prog 76 con := tcon_ok Base.mixed Base.prog_ok q60 (by kernel_rfl) LapsOk.nil 9 (fun _ => rfl) (fun x => t x.2.1 x.2.2) (fun _ => rfl) fun _ _ _ => (by kernel_rfl)
end q6j
def q6k : Book := q5z.add 76 q6j.con
theorem q6l : BookOk Try.prog q6k := q60.add q6j.ok
namespace q5v
def D : Dom := ⟨[], (.cat .str (.cat (.int .u32) (.agg (.cat (.int .i64) (.cat (.int .i64) (.cat (.int .i64) (.cat (.int .i64) (.cat (.int .i64) (.cat (.int .i64) (.cat (.int .i64) (.cat (.int .i64) (.cat .bool .bool))))))))))))⟩
def A : Dom := ⟨[], (.tup (.cat .str (.cat .str (.cat (.int .i64) (.int .i64)))))⟩
def t (s : Ls) (p : Int) (Old : Bool) : Tr (Ls × Ls × Int × Int) :=
 .call (q4v.f p (3 : Int)) fun y1 =>
 .call (q67.f s y1) fun (y2a, y2b, y2c, y2d, y2e) =>
 .br (!y2e) (.ret ([], [], 0, (400 : Int)))
 (.br (decide (y2d < (2 : Int))) (.ret ([], [], 0, (400 : Int)))
  (.br (y2d == (2 : Int)) (.call (q4v.f p (6 : Int)) fun y3 =>
   .br (!y3) (.ret ([], [], 0, (400 : Int)))
   (.br (decide (y2d > (3 : Int))) (.call (q4v.f p (7 : Int)) fun y4 =>
    .br (!y4) (.ret ([], [], 0, (400 : Int)))
    (.br (y2d == (2 : Int)) (.br (decide ((↑y2a.length : Int) < (1 : Int))) (.ret ([], [], 0, (400 : Int)))
     (.br (decide ((↑y2a.length : Int) > (32 : Int))) (.ret ([], [], 0, (400 : Int)))
     (.call (q31.f [(1 : Int)] y2a) fun y5 =>
      .br (!y5) (.ret ([], [], 0, (400 : Int)))
      (.call (q6g.f y2c p) fun y6 =>
      .br (!y6) (.ret ([], [], 0, (400 : Int)))
      (.call (q4v.f p (7 : Int)) fun y7 =>
       .br (!y7) (.call (q4v.f p (8 : Int)) fun y8 =>
       .br (!y8) (.call (q5y.f y2a y2c) fun (_, _, _, _, _, y9f) =>
        .br (y9f != (0 : Int)) (.ret ([], [], 0, (400 : Int)))
        (.br (!Old) (.ret ([], [], 0, (505 : Int)))
        (.ret (y2a, y2c, 0, (0 : Int)))))
       (.br (!Old) (.ret ([], [], 0, (505 : Int)))
        (.ret (y2a, y2c, 0, (0 : Int)))))
       (.br (!Old) (.ret ([], [], 0, (505 : Int)))
       (.ret (y2a, y2c, 0, (0 : Int)))))))))
    (.br (decide ((↑y2a.length : Int) < (1 : Int))) (.ret ([], [], 0, (400 : Int)))
     (.br (decide ((↑y2a.length : Int) > (32 : Int))) (.ret ([], [], 0, (400 : Int)))
     (.call (q31.f [(1 : Int)] y2a) fun y10 =>
      .br (!y10) (.ret ([], [], 0, (400 : Int)))
      (.call (q6g.f y2b p) fun y11 =>
      .br (!y11) (.ret ([], [], 0, (400 : Int)))
      (.call (q4v.f p (7 : Int)) fun y12 =>
       .br (!y12) (.call (q4v.f p (8 : Int)) fun y13 =>
       .br (!y13) (.call (q5y.f y2a y2b) fun (_, _, _, _, _, y14f) =>
        .br (y14f != (0 : Int)) (.ret ([], [], 0, (400 : Int)))
        (.call (q6j.f y2c p) fun (y15a, y15b) =>
        .br (!y15b) (.ret ([], [], 0, (505 : Int)))
        (.br (y15a == (0 : Int)) (.br (!Old) (.ret ([], [], 0, (505 : Int)))
         (.ret (y2a, y2b, y15a, (0 : Int))))
         (.ret (y2a, y2b, y15a, (0 : Int))))))
       (.call (q6j.f y2c p) fun (y16a, y16b) =>
        .br (!y16b) (.ret ([], [], 0, (505 : Int)))
        (.br (y16a == (0 : Int)) (.br (!Old) (.ret ([], [], 0, (505 : Int)))
         (.ret (y2a, y2b, y16a, (0 : Int))))
        (.ret (y2a, y2b, y16a, (0 : Int))))))
       (.call (q6j.f y2c p) fun (y17a, y17b) =>
       .br (!y17b) (.ret ([], [], 0, (505 : Int)))
       (.br (y17a == (0 : Int)) (.br (!Old) (.ret ([], [], 0, (505 : Int)))
        (.ret (y2a, y2b, y17a, (0 : Int))))
        (.ret (y2a, y2b, y17a, (0 : Int))))))))))))
   (.br (y2d == (2 : Int)) (.br (decide ((↑y2a.length : Int) < (1 : Int))) (.ret ([], [], 0, (400 : Int)))
    (.br (decide ((↑y2a.length : Int) > (32 : Int))) (.ret ([], [], 0, (400 : Int)))
     (.call (q31.f [(1 : Int)] y2a) fun y18 =>
     .br (!y18) (.ret ([], [], 0, (400 : Int)))
     (.call (q6g.f y2c p) fun y19 =>
      .br (!y19) (.ret ([], [], 0, (400 : Int)))
      (.call (q4v.f p (7 : Int)) fun y20 =>
      .br (!y20) (.call (q4v.f p (8 : Int)) fun y21 =>
       .br (!y21) (.call (q5y.f y2a y2c) fun (_, _, _, _, _, y22f) =>
       .br (y22f != (0 : Int)) (.ret ([], [], 0, (400 : Int)))
       (.br (!Old) (.ret ([], [], 0, (505 : Int)))
        (.ret (y2a, y2c, 0, (0 : Int)))))
       (.br (!Old) (.ret ([], [], 0, (505 : Int)))
       (.ret (y2a, y2c, 0, (0 : Int)))))
      (.br (!Old) (.ret ([], [], 0, (505 : Int)))
       (.ret (y2a, y2c, 0, (0 : Int)))))))))
    (.br (decide ((↑y2a.length : Int) < (1 : Int))) (.ret ([], [], 0, (400 : Int)))
    (.br (decide ((↑y2a.length : Int) > (32 : Int))) (.ret ([], [], 0, (400 : Int)))
     (.call (q31.f [(1 : Int)] y2a) fun y23 =>
     .br (!y23) (.ret ([], [], 0, (400 : Int)))
     (.call (q6g.f y2b p) fun y24 =>
      .br (!y24) (.ret ([], [], 0, (400 : Int)))
      (.call (q4v.f p (7 : Int)) fun y25 =>
      .br (!y25) (.call (q4v.f p (8 : Int)) fun y26 =>
       .br (!y26) (.call (q5y.f y2a y2b) fun (_, _, _, _, _, y27f) =>
       .br (y27f != (0 : Int)) (.ret ([], [], 0, (400 : Int)))
       (.call (q6j.f y2c p) fun (y28a, y28b) =>
        .br (!y28b) (.ret ([], [], 0, (505 : Int)))
        (.br (y28a == (0 : Int)) (.br (!Old) (.ret ([], [], 0, (505 : Int)))
         (.ret (y2a, y2b, y28a, (0 : Int))))
        (.ret (y2a, y2b, y28a, (0 : Int))))))
       (.call (q6j.f y2c p) fun (y29a, y29b) =>
       .br (!y29b) (.ret ([], [], 0, (505 : Int)))
       (.br (y29a == (0 : Int)) (.br (!Old) (.ret ([], [], 0, (505 : Int)))
        (.ret (y2a, y2b, y29a, (0 : Int))))
        (.ret (y2a, y2b, y29a, (0 : Int))))))
      (.call (q6j.f y2c p) fun (y30a, y30b) =>
       .br (!y30b) (.ret ([], [], 0, (505 : Int)))
       (.br (y30a == (0 : Int)) (.br (!Old) (.ret ([], [], 0, (505 : Int)))
        (.ret (y2a, y2b, y30a, (0 : Int))))
       (.ret (y2a, y2b, y30a, (0 : Int)))))))))))))
  (.br (decide (y2d > (3 : Int))) (.call (q4v.f p (7 : Int)) fun y31 =>
   .br (!y31) (.ret ([], [], 0, (400 : Int)))
   (.br (y2d == (2 : Int)) (.br (decide ((↑y2a.length : Int) < (1 : Int))) (.ret ([], [], 0, (400 : Int)))
    (.br (decide ((↑y2a.length : Int) > (32 : Int))) (.ret ([], [], 0, (400 : Int)))
     (.call (q31.f [(1 : Int)] y2a) fun y32 =>
     .br (!y32) (.ret ([], [], 0, (400 : Int)))
     (.call (q6g.f y2c p) fun y33 =>
      .br (!y33) (.ret ([], [], 0, (400 : Int)))
      (.call (q4v.f p (7 : Int)) fun y34 =>
      .br (!y34) (.call (q4v.f p (8 : Int)) fun y35 =>
       .br (!y35) (.call (q5y.f y2a y2c) fun (_, _, _, _, _, y36f) =>
       .br (y36f != (0 : Int)) (.ret ([], [], 0, (400 : Int)))
       (.br (!Old) (.ret ([], [], 0, (505 : Int)))
        (.ret (y2a, y2c, 0, (0 : Int)))))
       (.br (!Old) (.ret ([], [], 0, (505 : Int)))
       (.ret (y2a, y2c, 0, (0 : Int)))))
      (.br (!Old) (.ret ([], [], 0, (505 : Int)))
       (.ret (y2a, y2c, 0, (0 : Int)))))))))
    (.br (decide ((↑y2a.length : Int) < (1 : Int))) (.ret ([], [], 0, (400 : Int)))
    (.br (decide ((↑y2a.length : Int) > (32 : Int))) (.ret ([], [], 0, (400 : Int)))
     (.call (q31.f [(1 : Int)] y2a) fun y37 =>
     .br (!y37) (.ret ([], [], 0, (400 : Int)))
     (.call (q6g.f y2b p) fun y38 =>
      .br (!y38) (.ret ([], [], 0, (400 : Int)))
      (.call (q4v.f p (7 : Int)) fun y39 =>
      .br (!y39) (.call (q4v.f p (8 : Int)) fun y40 =>
       .br (!y40) (.call (q5y.f y2a y2b) fun (_, _, _, _, _, y41f) =>
       .br (y41f != (0 : Int)) (.ret ([], [], 0, (400 : Int)))
       (.call (q6j.f y2c p) fun (y42a, y42b) =>
        .br (!y42b) (.ret ([], [], 0, (505 : Int)))
        (.br (y42a == (0 : Int)) (.br (!Old) (.ret ([], [], 0, (505 : Int)))
         (.ret (y2a, y2b, y42a, (0 : Int))))
        (.ret (y2a, y2b, y42a, (0 : Int))))))
       (.call (q6j.f y2c p) fun (y43a, y43b) =>
       .br (!y43b) (.ret ([], [], 0, (505 : Int)))
       (.br (y43a == (0 : Int)) (.br (!Old) (.ret ([], [], 0, (505 : Int)))
        (.ret (y2a, y2b, y43a, (0 : Int))))
        (.ret (y2a, y2b, y43a, (0 : Int))))))
      (.call (q6j.f y2c p) fun (y44a, y44b) =>
       .br (!y44b) (.ret ([], [], 0, (505 : Int)))
       (.br (y44a == (0 : Int)) (.br (!Old) (.ret ([], [], 0, (505 : Int)))
        (.ret (y2a, y2b, y44a, (0 : Int))))
       (.ret (y2a, y2b, y44a, (0 : Int))))))))))))
   (.br (y2d == (2 : Int)) (.br (decide ((↑y2a.length : Int) < (1 : Int))) (.ret ([], [], 0, (400 : Int)))
    (.br (decide ((↑y2a.length : Int) > (32 : Int))) (.ret ([], [], 0, (400 : Int)))
    (.call (q31.f [(1 : Int)] y2a) fun y45 =>
     .br (!y45) (.ret ([], [], 0, (400 : Int)))
     (.call (q6g.f y2c p) fun y46 =>
     .br (!y46) (.ret ([], [], 0, (400 : Int)))
     (.call (q4v.f p (7 : Int)) fun y47 =>
      .br (!y47) (.call (q4v.f p (8 : Int)) fun y48 =>
      .br (!y48) (.call (q5y.f y2a y2c) fun (_, _, _, _, _, y49f) =>
       .br (y49f != (0 : Int)) (.ret ([], [], 0, (400 : Int)))
       (.br (!Old) (.ret ([], [], 0, (505 : Int)))
       (.ret (y2a, y2c, 0, (0 : Int)))))
      (.br (!Old) (.ret ([], [], 0, (505 : Int)))
       (.ret (y2a, y2c, 0, (0 : Int)))))
      (.br (!Old) (.ret ([], [], 0, (505 : Int)))
      (.ret (y2a, y2c, 0, (0 : Int)))))))))
   (.br (decide ((↑y2a.length : Int) < (1 : Int))) (.ret ([], [], 0, (400 : Int)))
    (.br (decide ((↑y2a.length : Int) > (32 : Int))) (.ret ([], [], 0, (400 : Int)))
    (.call (q31.f [(1 : Int)] y2a) fun y50 =>
     .br (!y50) (.ret ([], [], 0, (400 : Int)))
     (.call (q6g.f y2b p) fun y51 =>
     .br (!y51) (.ret ([], [], 0, (400 : Int)))
     (.call (q4v.f p (7 : Int)) fun y52 =>
      .br (!y52) (.call (q4v.f p (8 : Int)) fun y53 =>
      .br (!y53) (.call (q5y.f y2a y2b) fun (_, _, _, _, _, y54f) =>
       .br (y54f != (0 : Int)) (.ret ([], [], 0, (400 : Int)))
       (.call (q6j.f y2c p) fun (y55a, y55b) =>
       .br (!y55b) (.ret ([], [], 0, (505 : Int)))
       (.br (y55a == (0 : Int)) (.br (!Old) (.ret ([], [], 0, (505 : Int)))
        (.ret (y2a, y2b, y55a, (0 : Int))))
        (.ret (y2a, y2b, y55a, (0 : Int))))))
      (.call (q6j.f y2c p) fun (y56a, y56b) =>
       .br (!y56b) (.ret ([], [], 0, (505 : Int)))
       (.br (y56a == (0 : Int)) (.br (!Old) (.ret ([], [], 0, (505 : Int)))
        (.ret (y2a, y2b, y56a, (0 : Int))))
       (.ret (y2a, y2b, y56a, (0 : Int))))))
      (.call (q6j.f y2c p) fun (y57a, y57b) =>
      .br (!y57b) (.ret ([], [], 0, (505 : Int)))
      (.br (y57a == (0 : Int)) (.br (!Old) (.ret ([], [], 0, (505 : Int)))
       (.ret (y2a, y2b, y57a, (0 : Int))))
       (.ret (y2a, y2b, y57a, (0 : Int))))))))))))))
def f (s : Ls) (p : Int) (Old : Bool) : Option (Ls × Ls × Int × Int) := (t s p Old).val
def F (x : D.den) : Option (Ls × Ls × Int × Int) := f x.2.1 x.2.2.1 x.2.2.2.2.2.2.2.2.2.2.2.2
def pa : D.den → (Ls × Ls × Int × Int) → A.den := fun (_, (_, (_, (_, (_, (_, (_, (_, (_, (_, (_, (_, _)))))))))))) (y1, y2, y3, y4) => ((), (y1, (y2, (y3, y4))))
def con : Con := tcon D A pa F
theorem ok : ConOk Try.prog 68 con := tcon_ok Base.mixed Base.prog_ok q6l (by kernel_rfl) LapsOk.nil 9 (fun _ => rfl) (fun x => t x.2.1 x.2.2.1 x.2.2.2.2.2.2.2.2.2.2.2.2) (fun _ => rfl) fun _ _ _ => (by kernel_rfl)
end q5v
def q5w : Book := q6k.add 68 q5v.con
theorem q5x : BookOk Try.prog q5w := q6l.add q5v.ok
namespace q3j
def D : Dom := ⟨[.vec (.pair .str .str) 99 true], (.cat (.sl 0 2) .str)⟩
namespace L3
def D : Dom := ⟨[.vec (.pair .str .str) 99 true, .vec .str 9 false], (.cat (.sl 0 2) (.cat .str (.cat (.sl 1 1) (.int .i64))))⟩
def A : Dom := ⟨[.vec (.pair .str .str) 99 true, .vec .str 9 false], (.sl 1 1)⟩
def t (l : Lf) (out : List (Ls)) (name : Ls) (i : Int) : Tr ((List (Ls) × Int) ⊕ (List (Ls))) :=
 .br (decide (i < (↑l.length : Int))) (.chk ((0 : Int) ≤ i ∧ i < (↑l.length : Int)) <| .chk ((0 : Nat) + i.toNat < l.length) <| .call (q41.f ((l.getD ((0 : Nat) + i.toNat) ([], [])).fst) name) fun y1 =>
  .br y1 (.chk ((0 : Int) ≤ i ∧ i < (↑l.length : Int)) <| .chk ((0 : Nat) + i.toNat < l.length) <| .chk ((0 : Nat) + out.length ≤ out.length) <| .chk ((out.length + (1 : Nat)) * (16 : Nat) ≤ (140737488355328 : Nat)) <| .okl l.length <| .chk ((0 : Nat) = (0 : Nat) ∧ out.length + (1 : Nat) = (List.take out.length (List.drop (0 : Nat) out) ++ [(l.getD ((0 : Nat) + i.toNat) ([], [])).snd]).length) <| .ret (.inl (List.take out.length (List.drop (0 : Nat) out) ++ [(l.getD ((0 : Nat) + i.toNat) ([], [])).snd], IntKind.i64.wrap (i + (1 : Int)))))
  (.okl l.length <| .okl out.length <| .ret (.inl (out, IntKind.i64.wrap (i + (1 : Int))))))
 (.okl out.length <| .ret (.inr out))
def f (l : Lf) (out : List (Ls)) (name : Ls) (i : Int) : Option (List (Ls)) := Loop (fun z : List (Ls) × Int => t l z.1 name z.2) (out, i)
def F (x : D.den) : Option (List (Ls)) := f x.1.1 x.1.2.1 x.2.2.1 x.2.2.2.2
def pa : D.den → (List (Ls)) → A.den := fun ((l, (_, _)), (_, (_, (_, _)))) y1 => ((l, (y1, ())), ())
def lap : Lap := tlap 3 29 [0, 1, 5, 6] D (.exit 0) [5] A pa F
def pk (x : D.den) (z : List (Ls) × Int) : D.den := ((x.1.1, (z.1, ())), ((), (x.2.2.1, ((), z.2))))
def un (x : D.den) : List (Ls) × Int := (x.1.2.1, x.2.2.2.2)
def body (x : D.den) (z : List (Ls) × Int) : Tr ((List (Ls) × Int) ⊕ (List (Ls))) := t x.1.1 z.1 x.2.2.1 z.2
theorem ok : LapOk Try.prog 1 (codeOf Try.prog 93) lap := tlap_ok Base.mixed Base.prog_ok q5x (by kernel_rfl) (by kernel_rfl) LapsOk.nil 9 pk un body (fun _ _ => rfl) (fun _ _ => rfl) (fun _ _ => rfl) (fun _ => rfl) fun _ _ _ _ => (by kernel_rfl)
end L3
def A : Dom := q3j.L3.A
def t (l : Lf) (name : Ls) : Tr (List (Ls)) :=
 .okl l.length <| .call (q3j.L3.f l [] name (0 : Int)) fun y1 =>
 .okl y1.length <| .ret y1
def f (l : Lf) (name : Ls) : Option (List (Ls)) := (t l name).val
def F (x : D.den) : Option (List (Ls)) := f x.1.1 x.2.2
def pa : D.den → (List (Ls)) → A.den := fun ((l, _), (_, _)) y1 => ((l, (y1, ())), ())
def con : Con := tcon D A pa F
theorem ok : ConOk Try.prog 93 con := tcon_ok Base.mixed Base.prog_ok q5x (by kernel_rfl) (.cons L3.ok (by kernel_rfl) (.nil)) 9 (fun _ => rfl) (fun x => t x.1.1 x.2.2) (fun _ => rfl) fun _ _ _ => (by kernel_rfl)
end q3j
def q3k : Book := q5w.add 93 q3j.con
theorem q3l : BookOk Try.prog q3k := q5x.add q3j.ok
namespace q6v
def D : Dom := ⟨[.vec (.pair .str .str) 99 true], (.cat (.int .u32) (.cat (.int .i64) (.sl 0 2)))⟩
namespace L5
def D : Dom := ⟨[.vec (.pair .str .str) 99 true, .vec .str 9 false], (.cat (.sl 1 1) (.int .i64))⟩
def A : Dom := ⟨[.vec (.pair .str .str) 99 true], .nil⟩
def B : Dom := ⟨[.vec (.pair .str .str) 99 true], (.int .i64)⟩
def t (h : List (Ls)) (i : Int) : Tr ((Int) ⊕ ((Unit) ⊕ (Int))) :=
 .br (decide (i < (↑h.length : Int))) (.chk ((0 : Int) ≤ i ∧ i < (↑h.length : Int)) <| .chk ((0 : Nat) + i.toNat < h.length) <| .call (q5a.f (h.getD ((0 : Nat) + i.toNat) [])) fun y1 =>
  .br (!y1) (.ret (.inr (.inr (400 : Int))))
  (.okl h.length <| .ret (.inl (IntKind.i64.wrap (i + (1 : Int))))))
 (.ret (.inr (.inl ())))
def f (h : List (Ls)) (i : Int) : Option ((Unit) ⊕ (Int)) := Loop (fun z : Int => t h z) i
def F (x : D.den) : Option ((Unit) ⊕ (Int)) := f x.1.2.1 x.2.2
def pa : D.den → (Unit) → A.den := fun ((l, (_, _)), (_, _)) _ => ((l, ()), ())
def pb : D.den → (Int) → B.den := fun ((l, (_, _)), (_, _)) y1 => ((l, ()), y1)
def lap : Lap := tlap2 5 45 [7, 8] D (.exit 0) [] A .ret [6] B pa pb F
def pk (x : D.den) (z : Int) : D.den := ((x.1.1, (x.1.2.1, ())), ((), z))
def un (x : D.den) : Int := x.2.2
def body (x : D.den) (z : Int) : Tr ((Int) ⊕ ((Unit) ⊕ (Int))) := t x.1.2.1 z
theorem ok : LapOk Try.prog 1 (codeOf Try.prog 92) lap := tlap2_ok Base.mixed Base.prog_ok q3l (by kernel_rfl) (by kernel_rfl) LapsOk.nil 9 pk un body (fun _ _ => rfl) (fun _ _ => rfl) (fun _ _ => rfl) (fun _ _ => rfl) (fun _ => rfl) fun _ _ _ _ => (by kernel_rfl)
end L5
def A : Dom := ⟨[.vec (.pair .str .str) 99 true], (.int .i64)⟩
def t (l : Lf) (p : Int) (minor : Int) : Tr (Int) :=
 .chk ((0 : Nat) + l.length ≤ l.length) <| .call (q3j.f (List.take l.length (List.drop (0 : Nat) l)) [(72 : UInt8), 111, 115, 116]) fun y1 =>
 .br (minor == (1 : Int)) (.br ((↑y1.length : Int) == (0 : Int)) (.call (q4v.f p (15 : Int)) fun y2 =>
  .br (!y2) (.ret (400 : Int))
  (.br (decide ((↑y1.length : Int) > (1 : Int))) (.call (q4v.f p (16 : Int)) fun y3 =>
   .br (!y3) (.ret (400 : Int))
   (.okl y1.length <| .both (q6v.L5.f y1 (0 : Int)) (fun _ => .ret (0 : Int))
    (fun y5 => .ret y5)))
   (.okl y1.length <| .both (q6v.L5.f y1 (0 : Int)) (fun _ => .ret (0 : Int))
   (fun y7 => .ret y7))))
  (.br (decide ((↑y1.length : Int) > (1 : Int))) (.call (q4v.f p (16 : Int)) fun y8 =>
   .br (!y8) (.ret (400 : Int))
   (.okl y1.length <| .both (q6v.L5.f y1 (0 : Int)) (fun _ => .ret (0 : Int))
   (fun y10 => .ret y10)))
  (.okl y1.length <| .both (q6v.L5.f y1 (0 : Int)) (fun _ => .ret (0 : Int))
   (fun y12 => .ret y12))))
 (.br (decide ((↑y1.length : Int) > (1 : Int))) (.call (q4v.f p (16 : Int)) fun y13 =>
  .br (!y13) (.ret (400 : Int))
  (.okl y1.length <| .both (q6v.L5.f y1 (0 : Int)) (fun _ => .ret (0 : Int))
   (fun y15 => .ret y15)))
  (.okl y1.length <| .both (q6v.L5.f y1 (0 : Int)) (fun _ => .ret (0 : Int))
  (fun y17 => .ret y17)))
def f (l : Lf) (p : Int) (minor : Int) : Option (Int) := (t l p minor).val
def F (x : D.den) : Option (Int) := f x.1.1 x.2.1 x.2.2.1
def pa : D.den → (Int) → A.den := fun ((l, _), (_, (_, _))) y1 => ((l, ()), y1)
def con : Con := tcon D A pa F
theorem ok : ConOk Try.prog 92 con := tcon_ok Base.mixed Base.prog_ok q3l (by kernel_rfl) (.cons L5.ok (by kernel_rfl) (.nil)) 9 (fun _ => rfl) (fun x => t x.1.1 x.2.1 x.2.2.1) (fun _ => rfl) fun _ _ _ => (by kernel_rfl)
end q6v
def q6w : Book := q3k.add 92 q6v.con
theorem q6x : BookOk Try.prog q6w := q3l.add q6v.ok
namespace q4g
def D : Dom := ⟨[], (.cat .str .str)⟩
namespace L1
def D : Dom := ⟨[], (.cat .str .str)⟩
def A : Dom := ⟨[], (.cat .str .str)⟩
def t (s : Ls) (set : Ls) : Tr ((Ls) ⊕ (Ls)) :=
 .br (!s == []) (.chk ((0 : Int) ≤ (0 : Int) ∧ (0 : Int) < (↑s.length : Int)) <| .call (q4m.f (↑(s.getD (Int.toNat (0 : Int)) (0 : UInt8)).toNat : Int) set) fun y1 =>
  .br y1 (.chk ((0 : Int) ≤ (1 : Int) ∧ (1 : Int) ≤ (↑s.length : Int) ∧ (↑s.length : Int) ≤ (↑s.length : Int)) <| .ret (.inl (List.drop (Int.toNat (1 : Int)) (List.take (↑s.length : Int).toNat s))))
  (.ret (.inr s)))
 (.ret (.inr s))
def f (s : Ls) (set : Ls) : Option (Ls) := Loop (fun z : Ls => t z set) s
def F (x : D.den) : Option (Ls) := f x.2.1 x.2.2
def pa : D.den → (Ls) → A.den := fun (_, (_, set)) y1 => ((), (y1, set))
def lap : Lap := tlap 1 32 [0, 1] D (.exit 0) [0, 1] A pa F
def pk (x : D.den) (z : Ls) : D.den := ((), (z, x.2.2))
def un (x : D.den) : Ls := x.2.1
def body (x : D.den) (z : Ls) : Tr ((Ls) ⊕ (Ls)) := t z x.2.2
theorem ok : LapOk Try.prog 0 (codeOf Try.prog 108) lap := tlap_ok Base.mixed Base.prog_ok q6x (by kernel_rfl) (by kernel_rfl) LapsOk.nil 9 pk un body (fun _ _ => rfl) (fun _ _ => rfl) (fun _ _ => rfl) (fun _ => rfl) fun _ _ _ _ => (by kernel_rfl)
end L1
namespace L3
def D : Dom := ⟨[], (.cat .str .str)⟩
def A : Dom := ⟨[], .str⟩
def t (s : Ls) (set : Ls) : Tr ((Ls) ⊕ (Ls)) :=
 .br (!s == []) (.chk ((0 : Int) ≤ IntKind.i64.wrap ((↑s.length : Int) - (1 : Int)) ∧ IntKind.i64.wrap ((↑s.length : Int) - (1 : Int)) < (↑s.length : Int)) <| .call (q4m.f (↑(s.getD (IntKind.i64.wrap ((↑s.length : Int) - (1 : Int))).toNat (0 : UInt8)).toNat : Int) set) fun y1 =>
  .br y1 (.chk ((0 : Int) ≤ (0 : Int) ∧ (0 : Int) ≤ IntKind.i64.wrap ((↑s.length : Int) - (1 : Int)) ∧ IntKind.i64.wrap ((↑s.length : Int) - (1 : Int)) ≤ (↑s.length : Int)) <| .ret (.inl (List.drop (↑(0 : Nat) : Int).toNat (List.take (IntKind.i64.wrap ((↑s.length : Int) - (1 : Int))).toNat s))))
  (.ret (.inr s)))
 (.ret (.inr s))
def f (s : Ls) (set : Ls) : Option (Ls) := Loop (fun z : Ls => t z set) s
def F (x : D.den) : Option (Ls) := f x.2.1 x.2.2
def pa : D.den → (Ls) → A.den := fun (_, (_, _)) y1 => ((), y1)
def lap : Lap := tlap 3 32 [0, 1] D (.exit 2) [0] A pa F
def pk (x : D.den) (z : Ls) : D.den := ((), (z, x.2.2))
def un (x : D.den) : Ls := x.2.1
def body (x : D.den) (z : Ls) : Tr ((Ls) ⊕ (Ls)) := t z x.2.2
theorem ok : LapOk Try.prog 0 (codeOf Try.prog 108) lap := tlap_ok Base.mixed Base.prog_ok q6x (by kernel_rfl) (by kernel_rfl) LapsOk.nil 9 pk un body (fun _ _ => rfl) (fun _ _ => rfl) (fun _ _ => rfl) (fun _ => rfl) fun _ _ _ _ => (by kernel_rfl)
end L3
def A : Dom := ⟨[], .str⟩
def t (s : Ls) (set : Ls) : Tr (Ls) :=
 .call (q4g.L1.f s set) fun y1 =>
 .call (q4g.L3.f y1 set) fun y2 =>
 .ret y2
def f (s : Ls) (set : Ls) : Option (Ls) := (t s set).val
def F (x : D.den) : Option (Ls) := f x.2.1 x.2.2
def pa : D.den → (Ls) → A.den := fun (_, (_, _)) y1 => ((), y1)
def con : Con := tcon D A pa F
theorem ok : ConOk Try.prog 108 con := tcon_ok Base.mixed Base.prog_ok q6x (by kernel_rfl) (.cons L1.ok (by kernel_rfl) (.cons L3.ok (by kernel_rfl) (.nil))) 9 (fun _ => rfl) (fun x => t x.2.1 x.2.2) (fun _ => rfl) fun _ _ _ => (by kernel_rfl)
end q4g
def q4h : Book := q6w.add 108 q4g.con
theorem q4i : BookOk Try.prog q4h := q6x.add q4g.ok
end Go.Vx
end
section
set_option maxRecDepth 1000000
set_option linter.unusedVariables false
namespace Go.Vx
open Go Go.Vx Go.Proofs
namespace q4d
def D : Dom := ⟨[], .str⟩
def A : Dom := ⟨[], .str⟩
def t (s : Ls) : Tr (Ls) :=
 .call (q4g.f s [(32 : UInt8), 9]) fun y1 =>
 .ret y1
def f (s : Ls) : Option (Ls) := (t s).val
def F (x : D.den) : Option (Ls) := f x.2
def pa : D.den → (Ls) → A.den := fun (_, _) y1 => ((), y1)
def con : Con := tcon D A pa F
theorem ok : ConOk Try.prog 96 con := tcon_ok Base.mixed Base.prog_ok q4i (by kernel_rfl) LapsOk.nil 9 (fun _ => rfl) (fun x => t x.2) (fun _ => rfl) fun _ _ _ => (by kernel_rfl)
end q4d
def q4e : Book := q4h.add 96 q4d.con
theorem q4f : BookOk Try.prog q4e := q4i.add q4d.ok
namespace q3v
def D : Dom := ⟨[.vec .str 9 true], (.sl 0 1)⟩
namespace L7
def D : Dom := ⟨[.vec .str 9 true, .vec .str 9 false, .vec .str 9 false], (.cat (.sl 0 1) (.cat (.sl 1 1) (.cat (.int .i64) (.cat (.sl 2 1) (.int .i64)))))⟩
def A : Dom := ⟨[.vec .str 9 true, .vec .str 9 false], (.cat (.sl 0 1) (.cat (.sl 1 1) (.int .i64)))⟩
def t (values : List (Ls)) (out : List (Ls)) (l : List (Ls)) (k : Int) : Tr ((List (Ls) × Int) ⊕ (List (Ls))) :=
 .br (decide (k < (↑l.length : Int))) (.chk ((0 : Int) ≤ k ∧ k < (↑l.length : Int)) <| .chk ((0 : Nat) + k.toNat < l.length) <| .call (q4d.f (l.getD ((0 : Nat) + k.toNat) [])) fun y1 =>
  .chk ((0 : Nat) + out.length ≤ out.length) <| .chk ((out.length + (1 : Nat)) * (16 : Nat) ≤ (140737488355328 : Nat)) <| .okl values.length <| .chk ((0 : Nat) = (0 : Nat) ∧ out.length + (1 : Nat) = (List.take out.length (List.drop (0 : Nat) out) ++ [y1]).length) <| .okl l.length <| .ret (.inl (List.take out.length (List.drop (0 : Nat) out) ++ [y1], IntKind.i64.wrap (k + (1 : Int)))))
 (.okl values.length <| .okl out.length <| .ret (.inr out))
def f (values : List (Ls)) (out : List (Ls)) (l : List (Ls)) (k : Int) : Option (List (Ls)) := Loop (fun z : List (Ls) × Int => t values z.1 l z.2) (out, k)
def F (x : D.den) : Option (List (Ls)) := f x.1.1 x.1.2.1 x.1.2.2.1 x.2.2.2.2.2
def pa : D.den → (List (Ls)) → A.den := fun ((values, (_, (_, _))), (_, (_, (i, (_, _))))) y1 => ((values, (y1, ())), ((), ((), i)))
def lap : Lap := tlap 7 33 [0, 3, 4, 5, 6] D (.exit 2) [0, 3, 4] A pa F
def pk (x : D.den) (z : List (Ls) × Int) : D.den := ((x.1.1, (z.1, (x.1.2.2.1, ()))), ((), ((), (x.2.2.2.1, ((), z.2)))))
def un (x : D.den) : List (Ls) × Int := (x.1.2.1, x.2.2.2.2.2)
def body (x : D.den) (z : List (Ls) × Int) : Tr ((List (Ls) × Int) ⊕ (List (Ls))) := t x.1.1 z.1 x.1.2.2.1 z.2
theorem ok : LapOk Try.prog 1 (codeOf Try.prog 107) lap := tlap_ok Base.mixed Base.prog_ok q4f (by kernel_rfl) (by kernel_rfl) LapsOk.nil 9 pk un body (fun _ _ => rfl) (fun _ _ => rfl) (fun _ _ => rfl) (fun _ => rfl) fun _ _ _ _ => (by kernel_rfl)
end L7
namespace L3
def D : Dom := q3v.L7.A
def A : Dom := ⟨[.vec .str 9 true, .vec .str 9 false], (.sl 1 1)⟩
def t (values : List (Ls)) (out : List (Ls)) (i : Int) : Tr ((List (Ls) × Int) ⊕ (List (Ls))) :=
 .br (decide (i < (↑values.length : Int))) (.chk ((0 : Int) ≤ i ∧ i < (↑values.length : Int)) <| .chk ((0 : Nat) + i.toNat < values.length) <| .call (q44.f (values.getD ((0 : Nat) + i.toNat) []) (44 : Int)) fun y1 =>
  .okl values.length <| .okl out.length <| .okl y1.length <| .call (q3v.L7.f values out y1 (0 : Int)) fun y2 =>
  .okl values.length <| .okl y2.length <| .ret (.inl (y2, IntKind.i64.wrap (i + (1 : Int)))))
 (.okl out.length <| .ret (.inr out))
def f (values : List (Ls)) (out : List (Ls)) (i : Int) : Option (List (Ls)) := Loop (fun z : List (Ls) × Int => t values z.1 z.2) (out, i)
def F (x : D.den) : Option (List (Ls)) := f x.1.1 x.1.2.1 x.2.2.2
def pa : D.den → (List (Ls)) → A.den := fun ((values, (_, _)), (_, (_, _))) y1 => ((values, (y1, ())), ())
def lap : Lap := tlap 3 33 [0, 3, 4] D (.exit 0) [3] A pa F
def pk (x : D.den) (z : List (Ls) × Int) : D.den := ((x.1.1, (z.1, ())), ((), ((), z.2)))
def un (x : D.den) : List (Ls) × Int := (x.1.2.1, x.2.2.2)
def body (x : D.den) (z : List (Ls) × Int) : Tr ((List (Ls) × Int) ⊕ (List (Ls))) := t x.1.1 z.1 z.2
theorem ok : LapOk Try.prog 1 (codeOf Try.prog 107) lap := tlap_ok Base.mixed Base.prog_ok q4f (by kernel_rfl) (by kernel_rfl) (.cons L7.ok (by kernel_rfl) (.nil)) 9 pk un body (fun _ _ => rfl) (fun _ _ => rfl) (fun _ _ => rfl) (fun _ => rfl) fun _ _ _ _ => (by kernel_rfl)
end L3
def A : Dom := ⟨[.vec .str 9 true, .vec .str 9 false], (.sl 1 1)⟩
def t (values : List (Ls)) : Tr (List (Ls)) :=
 .okl values.length <| .call (q3v.L3.f values [] (0 : Int)) fun y1 =>
 .okl y1.length <| .ret y1
def f (values : List (Ls)) : Option (List (Ls)) := (t values).val
def F (x : D.den) : Option (List (Ls)) := f x.1.1
def pa : D.den → (List (Ls)) → A.den := fun ((values, _), _) y1 => ((values, (y1, ())), ())
def con : Con := tcon D A pa F
theorem ok : ConOk Try.prog 107 con := tcon_ok Base.mixed Base.prog_ok q4f (by kernel_rfl) (.cons L7.ok (by kernel_rfl) (.cons L3.ok (by kernel_rfl) (.nil))) 9 (fun _ => rfl) (fun x => t x.1.1) (fun _ => rfl) fun _ _ _ => (by kernel_rfl)
end q3v
def q3w : Book := q4e.add 107 q3v.con
theorem q3x : BookOk Try.prog q3w := q4f.add q3v.ok
namespace q6m
def D : Dom := ⟨[.vec .str 9 true], (.cat (.int .u32) (.sl 0 1))⟩
namespace L3
def D : Dom := ⟨[.vec .str 9 true, .vec .str 9 false], (.cat (.int .u32) (.cat (.sl 1 1) (.int .i64)))⟩
def A : Dom := ⟨[.vec .str 9 true, .vec .str 9 false], (.cat (.int .u32) (.sl 1 1))⟩
def t (l : List (Ls)) (p : Int) (i : Int) : Tr ((List (Ls) × Int) ⊕ (List (Ls))) :=
 .br (decide (i < (↑l.length : Int))) (.call (q4v.f p (17 : Int)) fun y1 =>
  .br y1 (.chk ((0 : Int) ≤ i ∧ i < (↑l.length : Int)) <| .chk ((0 : Nat) + i.toNat < l.length) <| .call (q4g.f (l.getD ((0 : Nat) + i.toNat) []) [(11 : UInt8), 12, 32, 9]) fun y2 =>
  .chk ((0 : Int) ≤ i ∧ i < (↑l.length : Int)) <| .chk ((0 : Nat) + i.toNat < l.length) <| .chk ((0 : Int) ≤ i ∧ i < (↑l.length : Int)) <| .chk ((0 : Nat) + i.toNat < (l.set ((0 : Nat) + i.toNat) y2).length) <| .call (q3y.f ((l.set ((0 : Nat) + i.toNat) y2).getD ((0 : Nat) + i.toNat) [])) fun y3 =>
  .chk ((0 : Int) ≤ i ∧ i < (↑l.length : Int)) <| .chk ((0 : Nat) + i.toNat < (l.set ((0 : Nat) + i.toNat) y2).length) <| .chk ((0 : Nat) = (0 : Nat) ∧ l.length = ((l.set ((0 : Nat) + i.toNat) y2).set ((0 : Nat) + i.toNat) y3).length) <| .ret (.inl ((l.set ((0 : Nat) + i.toNat) y2).set ((0 : Nat) + i.toNat) y3, IntKind.i64.wrap (i + (1 : Int)))))
  (.chk ((0 : Int) ≤ i ∧ i < (↑l.length : Int)) <| .chk ((0 : Nat) + i.toNat < l.length) <| .call (q3y.f (l.getD ((0 : Nat) + i.toNat) [])) fun y4 =>
  .chk ((0 : Int) ≤ i ∧ i < (↑l.length : Int)) <| .chk ((0 : Nat) + i.toNat < l.length) <| .chk ((0 : Nat) = (0 : Nat) ∧ l.length = (l.set ((0 : Nat) + i.toNat) y4).length) <| .ret (.inl (l.set ((0 : Nat) + i.toNat) y4, IntKind.i64.wrap (i + (1 : Int))))))
 (.okl l.length <| .ret (.inr l))
def f (l : List (Ls)) (p : Int) (i : Int) : Option (List (Ls)) := Loop (fun z : List (Ls) × Int => t z.1 p z.2) (l, i)
def F (x : D.den) : Option (List (Ls)) := f x.1.2.1 x.2.1 x.2.2.2
def pa : D.den → (List (Ls)) → A.den := fun ((values, (_, _)), (p, (_, _))) y1 => ((values, (y1, ())), (p, ()))
def lap : Lap := tlap 3 68 [0, 5, 6] D (.exit 0) [0, 5] A pa F
def pk (x : D.den) (z : List (Ls) × Int) : D.den := ((x.1.1, (z.1, ())), (x.2.1, ((), z.2)))
def un (x : D.den) : List (Ls) × Int := (x.1.2.1, x.2.2.2)
def body (x : D.den) (z : List (Ls) × Int) : Tr ((List (Ls) × Int) ⊕ (List (Ls))) := t z.1 x.2.1 z.2
theorem ok : LapOk Try.prog 1 (codeOf Try.prog 94) lap := tlap_ok Base.mixed Base.prog_ok q3x (by kernel_rfl) (by kernel_rfl) LapsOk.nil 9 pk un body (fun _ _ => rfl) (fun _ _ => rfl) (fun _ _ => rfl) (fun _ => rfl) fun _ _ _ _ => (by kernel_rfl)
end L3
namespace L10
def D : Dom := ⟨[.vec .str 9 true, .vec .str 9 false], (.cat (.int .u32) (.cat (.sl 1 1) (.cat (.int .i64) (.int .i64))))⟩
def A : Dom := q6m.L3.D
def t (l : List (Ls)) (n : Int) (i : Int) : Tr ((Int × Int) ⊕ (Int)) :=
 .br (decide (i < (↑l.length : Int))) (.chk ((0 : Int) ≤ i ∧ i < (↑l.length : Int)) <| .chk ((0 : Nat) + i.toNat < l.length) <| .br (l.getD ((0 : Nat) + i.toNat) [] == [(99 : UInt8), 104, 117, 110, 107, 101, 100]) (.okl l.length <| .ret (.inl (IntKind.i64.wrap (n + (1 : Int)), IntKind.i64.wrap (i + (1 : Int)))))
  (.okl l.length <| .ret (.inl (n, IntKind.i64.wrap (i + (1 : Int))))))
 (.okl l.length <| .ret (.inr n))
def f (l : List (Ls)) (n : Int) (i : Int) : Option (Int) := Loop (fun z : Int × Int => t l z.1 z.2) (n, i)
def F (x : D.den) : Option (Int) := f x.1.2.1 x.2.2.2.1 x.2.2.2.2
def pa : D.den → (Int) → A.den := fun ((values, (l, _)), (p, (_, (_, _)))) y1 => ((values, (l, ())), (p, ((), y1)))
def lap : Lap := tlap 10 68 [0, 5, 7, 8] D (.exit 2) [0, 5, 7] A pa F
def pk (x : D.den) (z : Int × Int) : D.den := ((x.1.1, (x.1.2.1, ())), (x.2.1, ((), (z.1, z.2))))
def un (x : D.den) : Int × Int := (x.2.2.2.1, x.2.2.2.2)
def body (x : D.den) (z : Int × Int) : Tr ((Int × Int) ⊕ (Int)) := t x.1.2.1 z.1 z.2
theorem ok : LapOk Try.prog 1 (codeOf Try.prog 94) lap := tlap_ok Base.mixed Base.prog_ok q3x (by kernel_rfl) (by kernel_rfl) LapsOk.nil 9 pk un body (fun _ _ => rfl) (fun _ _ => rfl) (fun _ _ => rfl) (fun _ => rfl) fun _ _ _ _ => (by kernel_rfl)
end L10
def A : Dom := ⟨[.vec .str 9 true], .bool⟩
def t (values : List (Ls)) (p : Int) : Tr (Bool) :=
 .chk ((0 : Nat) + values.length ≤ values.length) <| .call (q3v.f (List.take values.length (List.drop (0 : Nat) values))) fun y1 =>
 .okl y1.length <| .call (q6m.L3.f y1 p (0 : Int)) fun y2 =>
 .okl y2.length <| .call (q6m.L10.f y2 (0 : Int) (0 : Int)) fun y3 =>
 .br (y3 == (1 : Int)) (.chk ((0 : Int) ≤ IntKind.i64.wrap ((↑y2.length : Int) - (1 : Int)) ∧ IntKind.i64.wrap ((↑y2.length : Int) - (1 : Int)) < (↑y2.length : Int)) <| .chk ((0 : Nat) + (IntKind.i64.wrap ((↑y2.length : Int) - (1 : Int))).toNat < y2.length) <| .br (y2.getD ((0 : Nat) + (IntKind.i64.wrap ((↑y2.length : Int) - (1 : Int))).toNat) [] == [(99 : UInt8), 104, 117, 110, 107, 101, 100]) (.br ((↑y2.length : Int) == (1 : Int)) (.ret true)
  (.call (q4v.f p (18 : Int)) fun y4 =>
   .ret y4))
  (.ret false))
 (.ret false)
def f (values : List (Ls)) (p : Int) : Option (Bool) := (t values p).val
def F (x : D.den) : Option (Bool) := f x.1.1 x.2.1
def pa : D.den → (Bool) → A.den := fun ((values, _), (_, _)) y1 => ((values, ()), y1)
def con : Con := tcon D A pa F
theorem ok : ConOk Try.prog 94 con := tcon_ok Base.mixed Base.prog_ok q3x (by kernel_rfl) (.cons L3.ok (by kernel_rfl) (.cons L10.ok (by kernel_rfl) (.nil))) 9 (fun _ => rfl) (fun x => t x.1.1 x.2.1) (fun _ => rfl) fun _ _ _ => (by kernel_rfl)
end q6m
def q6n : Book := q3w.add 94 q6m.con
theorem q6o : BookOk Try.prog q6n := q3x.add q6m.ok
namespace q71
def D : Dom := ⟨[.vec .str 9 true], (.cat (.int .u32) (.cat (.int .i64) (.sl 0 1)))⟩
namespace L8
def D : Dom := ⟨[.vec .str 9 true, .vec .str 9 true], (.cat (.int .u32) (.cat (.int .i64) (.cat (.sl 1 1) (.cat .bool (.int .i64)))))⟩
def A : Dom := ⟨[.vec .str 9 true, .vec .str 9 true], (.cat (.int .u32) (.cat (.int .i64) (.cat (.sl 1 1) .bool)))⟩
def t (l : List (Ls)) (alike : Bool) (i : Int) : Tr ((List (Ls) × Bool × Int) ⊕ (List (Ls) × Bool)) :=
 .br (decide (i < (↑l.length : Int))) (.br alike (.chk ((0 : Int) ≤ i ∧ i < (↑l.length : Int)) <| .chk ((0 : Nat) + i.toNat < l.length) <| .chk ((0 : Int) ≤ (0 : Int) ∧ (0 : Int) < (↑l.length : Int)) <| .chk ((0 : Nat) < l.length) <| .chk ((0 : Nat) + l.length ≤ l.length) <| .ret (.inl (List.take l.length (List.drop (0 : Nat) l), l.getD ((0 : Nat) + i.toNat) [] == l.getD (0 : Nat) [], IntKind.i64.wrap (i + (1 : Int)))))
  (.chk ((0 : Nat) + l.length ≤ l.length) <| .ret (.inl (List.take l.length (List.drop (0 : Nat) l), false, IntKind.i64.wrap (i + (1 : Int))))))
 (.chk ((0 : Nat) + l.length ≤ l.length) <| .ret (.inr (List.take l.length (List.drop (0 : Nat) l), alike)))
def f (l : List (Ls)) (alike : Bool) (i : Int) : Option (List (Ls) × Bool) := Loop (fun z : List (Ls) × Bool × Int => t z.1 z.2.1 z.2.2) (l, alike, i)
def F (x : D.den) : Option (List (Ls) × Bool) := f x.1.2.1 x.2.2.2.2.1 x.2.2.2.2.2
def pa : D.den → (List (Ls) × Bool) → A.den := fun ((values, (_, _)), (p, (most, (_, (_, _))))) (y1, y2) => ((values, (y1, ())), (p, (most, ((), y2))))
def lap : Lap := tlap 8 88 [0, 1, 8, 9, 10] D (.exit 0) [0, 1, 8, 9] A pa F
def pk (x : D.den) (z : List (Ls) × Bool × Int) : D.den := ((x.1.1, (z.1, ())), (x.2.1, (x.2.2.1, ((), (z.2.1, z.2.2)))))
def un (x : D.den) : List (Ls) × Bool × Int := (x.1.2.1, x.2.2.2.2.1, x.2.2.2.2.2)
def body (x : D.den) (z : List (Ls) × Bool × Int) : Tr ((List (Ls) × Bool × Int) ⊕ (List (Ls) × Bool)) := t z.1 z.2.1 z.2.2
theorem ok : LapOk Try.prog 1 (codeOf Try.prog 95) lap := tlap_ok Base.mixed Base.prog_ok q6o (by kernel_rfl) (by kernel_rfl) LapsOk.nil 9 pk un body (fun _ _ => rfl) (fun _ _ => rfl) (fun _ _ => rfl) (fun _ => rfl) fun _ _ _ _ => (by kernel_rfl)
end L8
def A : Dom := ⟨[.vec .str 9 true], (.tup (.cat (.int .i64) (.int .i64)))⟩
def t (values : List (Ls)) (p : Int) (most : Int) : Tr (Int × Int) :=
 .br ((↑values.length : Int) == (0 : Int)) (.ret ((0 : Int), (0 : Int)))
 (.call (q4v.f p (24 : Int)) fun y1 =>
  .br y1 (.chk ((0 : Nat) + values.length ≤ values.length) <| .call (q3v.f (List.take values.length (List.drop (0 : Nat) values))) fun y2 =>
  .chk ((0 : Nat) + y2.length ≤ y2.length) <| .call (q71.L8.f (List.take y2.length (List.drop (0 : Nat) y2)) y1 (0 : Int)) fun (y3a, y3b) =>
  .chk ((0 : Int) ≤ (0 : Int) ∧ (0 : Int) < (↑y3a.length : Int)) <| .chk ((0 : Nat) < y3a.length) <| .br ((↑y3a.length : Int) == (1 : Int)) (.call (q4v.f p (23 : Int)) fun y4 =>
   .br y4 (.br (!y3a.getD (0 : Nat) [] == []) (.chk ((0 : Int) ≤ (0 : Int) ∧ (0 : Int) < (↑(List.length (y3a.getD (0 : Nat) [])) : Int)) <| .br ((↑(List.getD (y3a.getD (0 : Nat) []) (Int.toNat (0 : Int)) (0 : UInt8)).toNat : Int) == (43 : Int)) (.chk ((0 : Int) ≤ (1 : Int) ∧ (1 : Int) ≤ (↑(List.length (y3a.getD (0 : Nat) [])) : Int) ∧ (↑(List.length (y3a.getD (0 : Nat) [])) : Int) ≤ (↑(List.length (y3a.getD (0 : Nat) [])) : Int)) <| .call (q3a.f (List.drop (Int.toNat (1 : Int)) (List.take (↑(List.length (y3a.getD (0 : Nat) [])) : Int).toNat (y3a.getD (0 : Nat) []))) most) fun (y5a, y5b) =>
    .br (y5b == (22 : Int)) (.ret ((0 : Int), (400 : Int)))
    (.br (y5b == (23 : Int)) (.ret ((0 : Int), (413 : Int)))
     (.ret (y5a, (0 : Int)))))
    (.call (q3a.f (y3a.getD (0 : Nat) []) most) fun (y6a, y6b) =>
    .br (y6b == (22 : Int)) (.ret ((0 : Int), (400 : Int)))
    (.br (y6b == (23 : Int)) (.ret ((0 : Int), (413 : Int)))
     (.ret (y6a, (0 : Int))))))
   (.call (q3a.f (y3a.getD (0 : Nat) []) most) fun (y7a, y7b) =>
    .br (y7b == (22 : Int)) (.ret ((0 : Int), (400 : Int)))
    (.br (y7b == (23 : Int)) (.ret ((0 : Int), (413 : Int)))
    (.ret (y7a, (0 : Int))))))
   (.call (q3a.f (y3a.getD (0 : Nat) []) most) fun (y8a, y8b) =>
   .br (y8b == (22 : Int)) (.ret ((0 : Int), (400 : Int)))
   (.br (y8b == (23 : Int)) (.ret ((0 : Int), (413 : Int)))
    (.ret (y8a, (0 : Int))))))
  (.br y3b (.call (q4v.f p (23 : Int)) fun y9 =>
   .br y9 (.br (!y3a.getD (0 : Nat) [] == []) (.chk ((0 : Int) ≤ (0 : Int) ∧ (0 : Int) < (↑(List.length (y3a.getD (0 : Nat) [])) : Int)) <| .br ((↑(List.getD (y3a.getD (0 : Nat) []) (Int.toNat (0 : Int)) (0 : UInt8)).toNat : Int) == (43 : Int)) (.chk ((0 : Int) ≤ (1 : Int) ∧ (1 : Int) ≤ (↑(List.length (y3a.getD (0 : Nat) [])) : Int) ∧ (↑(List.length (y3a.getD (0 : Nat) [])) : Int) ≤ (↑(List.length (y3a.getD (0 : Nat) [])) : Int)) <| .call (q3a.f (List.drop (Int.toNat (1 : Int)) (List.take (↑(List.length (y3a.getD (0 : Nat) [])) : Int).toNat (y3a.getD (0 : Nat) []))) most) fun (y10a, y10b) =>
     .br (y10b == (22 : Int)) (.ret ((0 : Int), (400 : Int)))
     (.br (y10b == (23 : Int)) (.ret ((0 : Int), (413 : Int)))
     (.ret (y10a, (0 : Int)))))
    (.call (q3a.f (y3a.getD (0 : Nat) []) most) fun (y11a, y11b) =>
     .br (y11b == (22 : Int)) (.ret ((0 : Int), (400 : Int)))
     (.br (y11b == (23 : Int)) (.ret ((0 : Int), (413 : Int)))
     (.ret (y11a, (0 : Int))))))
    (.call (q3a.f (y3a.getD (0 : Nat) []) most) fun (y12a, y12b) =>
    .br (y12b == (22 : Int)) (.ret ((0 : Int), (400 : Int)))
    (.br (y12b == (23 : Int)) (.ret ((0 : Int), (413 : Int)))
     (.ret (y12a, (0 : Int))))))
   (.call (q3a.f (y3a.getD (0 : Nat) []) most) fun (y13a, y13b) =>
    .br (y13b == (22 : Int)) (.ret ((0 : Int), (400 : Int)))
    (.br (y13b == (23 : Int)) (.ret ((0 : Int), (413 : Int)))
    (.ret (y13a, (0 : Int))))))
   (.call (q4v.f p (25 : Int)) fun y14 =>
   .br y14 (.call (q4v.f p (23 : Int)) fun y15 =>
    .br y15 (.br (!y3a.getD (0 : Nat) [] == []) (.chk ((0 : Int) ≤ (0 : Int) ∧ (0 : Int) < (↑(List.length (y3a.getD (0 : Nat) [])) : Int)) <| .br ((↑(List.getD (y3a.getD (0 : Nat) []) (Int.toNat (0 : Int)) (0 : UInt8)).toNat : Int) == (43 : Int)) (.chk ((0 : Int) ≤ (1 : Int) ∧ (1 : Int) ≤ (↑(List.length (y3a.getD (0 : Nat) [])) : Int) ∧ (↑(List.length (y3a.getD (0 : Nat) [])) : Int) ≤ (↑(List.length (y3a.getD (0 : Nat) [])) : Int)) <| .call (q3a.f (List.drop (Int.toNat (1 : Int)) (List.take (↑(List.length (y3a.getD (0 : Nat) [])) : Int).toNat (y3a.getD (0 : Nat) []))) most) fun (y16a, y16b) =>
     .br (y16b == (22 : Int)) (.ret ((0 : Int), (400 : Int)))
     (.br (y16b == (23 : Int)) (.ret ((0 : Int), (413 : Int)))
      (.ret (y16a, (0 : Int)))))
     (.call (q3a.f (y3a.getD (0 : Nat) []) most) fun (y17a, y17b) =>
     .br (y17b == (22 : Int)) (.ret ((0 : Int), (400 : Int)))
     (.br (y17b == (23 : Int)) (.ret ((0 : Int), (413 : Int)))
      (.ret (y17a, (0 : Int))))))
    (.call (q3a.f (y3a.getD (0 : Nat) []) most) fun (y18a, y18b) =>
     .br (y18b == (22 : Int)) (.ret ((0 : Int), (400 : Int)))
     (.br (y18b == (23 : Int)) (.ret ((0 : Int), (413 : Int)))
     (.ret (y18a, (0 : Int))))))
    (.call (q3a.f (y3a.getD (0 : Nat) []) most) fun (y19a, y19b) =>
    .br (y19b == (22 : Int)) (.ret ((0 : Int), (400 : Int)))
    (.br (y19b == (23 : Int)) (.ret ((0 : Int), (413 : Int)))
     (.ret (y19a, (0 : Int))))))
   (.call (q4v.f p (26 : Int)) fun y20 =>
    .br y20 (.chk ((0 : Int) ≤ IntKind.i64.wrap ((↑y3a.length : Int) - (1 : Int)) ∧ IntKind.i64.wrap ((↑y3a.length : Int) - (1 : Int)) < (↑y3a.length : Int)) <| .chk ((0 : Nat) + (IntKind.i64.wrap ((↑y3a.length : Int) - (1 : Int))).toNat < y3a.length) <| .call (q4v.f p (23 : Int)) fun y21 =>
    .br y21 (.br (!y3a.getD ((0 : Nat) + (IntKind.i64.wrap ((↑y3a.length : Int) - (1 : Int))).toNat) [] == []) (.chk ((0 : Int) ≤ (0 : Int) ∧ (0 : Int) < (↑(List.length (y3a.getD ((0 : Nat) + (IntKind.i64.wrap ((↑y3a.length : Int) - (1 : Int))).toNat) [])) : Int)) <| .br ((↑(List.getD (y3a.getD ((0 : Nat) + (IntKind.i64.wrap ((↑y3a.length : Int) - (1 : Int))).toNat) []) (Int.toNat (0 : Int)) (0 : UInt8)).toNat : Int) == (43 : Int)) (.chk ((0 : Int) ≤ (1 : Int) ∧ (1 : Int) ≤ (↑(List.length (y3a.getD ((0 : Nat) + (IntKind.i64.wrap ((↑y3a.length : Int) - (1 : Int))).toNat) [])) : Int) ∧ (↑(List.length (y3a.getD ((0 : Nat) + (IntKind.i64.wrap ((↑y3a.length : Int) - (1 : Int))).toNat) [])) : Int) ≤ (↑(List.length (y3a.getD ((0 : Nat) + (IntKind.i64.wrap ((↑y3a.length : Int) - (1 : Int))).toNat) [])) : Int)) <| .call (q3a.f (List.drop (Int.toNat (1 : Int)) (List.take (↑(List.length (y3a.getD ((0 : Nat) + (IntKind.i64.wrap ((↑y3a.length : Int) - (1 : Int))).toNat) [])) : Int).toNat (y3a.getD ((0 : Nat) + (IntKind.i64.wrap ((↑y3a.length : Int) - (1 : Int))).toNat) []))) most) fun (y22a, y22b) =>
      .br (y22b == (22 : Int)) (.ret ((0 : Int), (400 : Int)))
      (.br (y22b == (23 : Int)) (.ret ((0 : Int), (413 : Int)))
      (.ret (y22a, (0 : Int)))))
     (.call (q3a.f (y3a.getD ((0 : Nat) + (IntKind.i64.wrap ((↑y3a.length : Int) - (1 : Int))).toNat) []) most) fun (y23a, y23b) =>
      .br (y23b == (22 : Int)) (.ret ((0 : Int), (400 : Int)))
      (.br (y23b == (23 : Int)) (.ret ((0 : Int), (413 : Int)))
      (.ret (y23a, (0 : Int))))))
     (.call (q3a.f (y3a.getD ((0 : Nat) + (IntKind.i64.wrap ((↑y3a.length : Int) - (1 : Int))).toNat) []) most) fun (y24a, y24b) =>
     .br (y24b == (22 : Int)) (.ret ((0 : Int), (400 : Int)))
     (.br (y24b == (23 : Int)) (.ret ((0 : Int), (413 : Int)))
      (.ret (y24a, (0 : Int))))))
    (.call (q3a.f (y3a.getD ((0 : Nat) + (IntKind.i64.wrap ((↑y3a.length : Int) - (1 : Int))).toNat) []) most) fun (y25a, y25b) =>
     .br (y25b == (22 : Int)) (.ret ((0 : Int), (400 : Int)))
     (.br (y25b == (23 : Int)) (.ret ((0 : Int), (413 : Int)))
     (.ret (y25a, (0 : Int))))))
    (.ret ((0 : Int), (400 : Int)))))))
  (.chk ((0 : Nat) + values.length ≤ values.length) <| .call (q71.L8.f (List.take values.length (List.drop (0 : Nat) values)) y1 (0 : Int)) fun (y26a, y26b) =>
  .chk ((0 : Int) ≤ (0 : Int) ∧ (0 : Int) < (↑y26a.length : Int)) <| .chk ((0 : Nat) < y26a.length) <| .br ((↑y26a.length : Int) == (1 : Int)) (.call (q4v.f p (23 : Int)) fun y27 =>
   .br y27 (.br (!y26a.getD (0 : Nat) [] == []) (.chk ((0 : Int) ≤ (0 : Int) ∧ (0 : Int) < (↑(List.length (y26a.getD (0 : Nat) [])) : Int)) <| .br ((↑(List.getD (y26a.getD (0 : Nat) []) (Int.toNat (0 : Int)) (0 : UInt8)).toNat : Int) == (43 : Int)) (.chk ((0 : Int) ≤ (1 : Int) ∧ (1 : Int) ≤ (↑(List.length (y26a.getD (0 : Nat) [])) : Int) ∧ (↑(List.length (y26a.getD (0 : Nat) [])) : Int) ≤ (↑(List.length (y26a.getD (0 : Nat) [])) : Int)) <| .call (q3a.f (List.drop (Int.toNat (1 : Int)) (List.take (↑(List.length (y26a.getD (0 : Nat) [])) : Int).toNat (y26a.getD (0 : Nat) []))) most) fun (y28a, y28b) =>
    .br (y28b == (22 : Int)) (.ret ((0 : Int), (400 : Int)))
    (.br (y28b == (23 : Int)) (.ret ((0 : Int), (413 : Int)))
     (.ret (y28a, (0 : Int)))))
    (.call (q3a.f (y26a.getD (0 : Nat) []) most) fun (y29a, y29b) =>
    .br (y29b == (22 : Int)) (.ret ((0 : Int), (400 : Int)))
    (.br (y29b == (23 : Int)) (.ret ((0 : Int), (413 : Int)))
     (.ret (y29a, (0 : Int))))))
   (.call (q3a.f (y26a.getD (0 : Nat) []) most) fun (y30a, y30b) =>
    .br (y30b == (22 : Int)) (.ret ((0 : Int), (400 : Int)))
    (.br (y30b == (23 : Int)) (.ret ((0 : Int), (413 : Int)))
    (.ret (y30a, (0 : Int))))))
   (.call (q3a.f (y26a.getD (0 : Nat) []) most) fun (y31a, y31b) =>
   .br (y31b == (22 : Int)) (.ret ((0 : Int), (400 : Int)))
   (.br (y31b == (23 : Int)) (.ret ((0 : Int), (413 : Int)))
    (.ret (y31a, (0 : Int))))))
  (.br y26b (.call (q4v.f p (23 : Int)) fun y32 =>
   .br y32 (.br (!y26a.getD (0 : Nat) [] == []) (.chk ((0 : Int) ≤ (0 : Int) ∧ (0 : Int) < (↑(List.length (y26a.getD (0 : Nat) [])) : Int)) <| .br ((↑(List.getD (y26a.getD (0 : Nat) []) (Int.toNat (0 : Int)) (0 : UInt8)).toNat : Int) == (43 : Int)) (.chk ((0 : Int) ≤ (1 : Int) ∧ (1 : Int) ≤ (↑(List.length (y26a.getD (0 : Nat) [])) : Int) ∧ (↑(List.length (y26a.getD (0 : Nat) [])) : Int) ≤ (↑(List.length (y26a.getD (0 : Nat) [])) : Int)) <| .call (q3a.f (List.drop (Int.toNat (1 : Int)) (List.take (↑(List.length (y26a.getD (0 : Nat) [])) : Int).toNat (y26a.getD (0 : Nat) []))) most) fun (y33a, y33b) =>
     .br (y33b == (22 : Int)) (.ret ((0 : Int), (400 : Int)))
     (.br (y33b == (23 : Int)) (.ret ((0 : Int), (413 : Int)))
     (.ret (y33a, (0 : Int)))))
    (.call (q3a.f (y26a.getD (0 : Nat) []) most) fun (y34a, y34b) =>
     .br (y34b == (22 : Int)) (.ret ((0 : Int), (400 : Int)))
     (.br (y34b == (23 : Int)) (.ret ((0 : Int), (413 : Int)))
     (.ret (y34a, (0 : Int))))))
    (.call (q3a.f (y26a.getD (0 : Nat) []) most) fun (y35a, y35b) =>
    .br (y35b == (22 : Int)) (.ret ((0 : Int), (400 : Int)))
    (.br (y35b == (23 : Int)) (.ret ((0 : Int), (413 : Int)))
     (.ret (y35a, (0 : Int))))))
   (.call (q3a.f (y26a.getD (0 : Nat) []) most) fun (y36a, y36b) =>
    .br (y36b == (22 : Int)) (.ret ((0 : Int), (400 : Int)))
    (.br (y36b == (23 : Int)) (.ret ((0 : Int), (413 : Int)))
    (.ret (y36a, (0 : Int))))))
   (.call (q4v.f p (25 : Int)) fun y37 =>
   .br y37 (.call (q4v.f p (23 : Int)) fun y38 =>
    .br y38 (.br (!y26a.getD (0 : Nat) [] == []) (.chk ((0 : Int) ≤ (0 : Int) ∧ (0 : Int) < (↑(List.length (y26a.getD (0 : Nat) [])) : Int)) <| .br ((↑(List.getD (y26a.getD (0 : Nat) []) (Int.toNat (0 : Int)) (0 : UInt8)).toNat : Int) == (43 : Int)) (.chk ((0 : Int) ≤ (1 : Int) ∧ (1 : Int) ≤ (↑(List.length (y26a.getD (0 : Nat) [])) : Int) ∧ (↑(List.length (y26a.getD (0 : Nat) [])) : Int) ≤ (↑(List.length (y26a.getD (0 : Nat) [])) : Int)) <| .call (q3a.f (List.drop (Int.toNat (1 : Int)) (List.take (↑(List.length (y26a.getD (0 : Nat) [])) : Int).toNat (y26a.getD (0 : Nat) []))) most) fun (y39a, y39b) =>
     .br (y39b == (22 : Int)) (.ret ((0 : Int), (400 : Int)))
     (.br (y39b == (23 : Int)) (.ret ((0 : Int), (413 : Int)))
      (.ret (y39a, (0 : Int)))))
     (.call (q3a.f (y26a.getD (0 : Nat) []) most) fun (y40a, y40b) =>
     .br (y40b == (22 : Int)) (.ret ((0 : Int), (400 : Int)))
     (.br (y40b == (23 : Int)) (.ret ((0 : Int), (413 : Int)))
      (.ret (y40a, (0 : Int))))))
    (.call (q3a.f (y26a.getD (0 : Nat) []) most) fun (y41a, y41b) =>
     .br (y41b == (22 : Int)) (.ret ((0 : Int), (400 : Int)))
     (.br (y41b == (23 : Int)) (.ret ((0 : Int), (413 : Int)))
     (.ret (y41a, (0 : Int))))))
    (.call (q3a.f (y26a.getD (0 : Nat) []) most) fun (y42a, y42b) =>
    .br (y42b == (22 : Int)) (.ret ((0 : Int), (400 : Int)))
    (.br (y42b == (23 : Int)) (.ret ((0 : Int), (413 : Int)))
     (.ret (y42a, (0 : Int))))))
   (.call (q4v.f p (26 : Int)) fun y43 =>
    .br y43 (.chk ((0 : Int) ≤ IntKind.i64.wrap ((↑y26a.length : Int) - (1 : Int)) ∧ IntKind.i64.wrap ((↑y26a.length : Int) - (1 : Int)) < (↑y26a.length : Int)) <| .chk ((0 : Nat) + (IntKind.i64.wrap ((↑y26a.length : Int) - (1 : Int))).toNat < y26a.length) <| .call (q4v.f p (23 : Int)) fun y44 =>
    .br y44 (.br (!y26a.getD ((0 : Nat) + (IntKind.i64.wrap ((↑y26a.length : Int) - (1 : Int))).toNat) [] == []) (.chk ((0 : Int) ≤ (0 : Int) ∧ (0 : Int) < (↑(List.length (y26a.getD ((0 : Nat) + (IntKind.i64.wrap ((↑y26a.length : Int) - (1 : Int))).toNat) [])) : Int)) <| .br ((↑(List.getD (y26a.getD ((0 : Nat) + (IntKind.i64.wrap ((↑y26a.length : Int) - (1 : Int))).toNat) []) (Int.toNat (0 : Int)) (0 : UInt8)).toNat : Int) == (43 : Int)) (.chk ((0 : Int) ≤ (1 : Int) ∧ (1 : Int) ≤ (↑(List.length (y26a.getD ((0 : Nat) + (IntKind.i64.wrap ((↑y26a.length : Int) - (1 : Int))).toNat) [])) : Int) ∧ (↑(List.length (y26a.getD ((0 : Nat) + (IntKind.i64.wrap ((↑y26a.length : Int) - (1 : Int))).toNat) [])) : Int) ≤ (↑(List.length (y26a.getD ((0 : Nat) + (IntKind.i64.wrap ((↑y26a.length : Int) - (1 : Int))).toNat) [])) : Int)) <| .call (q3a.f (List.drop (Int.toNat (1 : Int)) (List.take (↑(List.length (y26a.getD ((0 : Nat) + (IntKind.i64.wrap ((↑y26a.length : Int) - (1 : Int))).toNat) [])) : Int).toNat (y26a.getD ((0 : Nat) + (IntKind.i64.wrap ((↑y26a.length : Int) - (1 : Int))).toNat) []))) most) fun (y45a, y45b) =>
      .br (y45b == (22 : Int)) (.ret ((0 : Int), (400 : Int)))
      (.br (y45b == (23 : Int)) (.ret ((0 : Int), (413 : Int)))
      (.ret (y45a, (0 : Int)))))
     (.call (q3a.f (y26a.getD ((0 : Nat) + (IntKind.i64.wrap ((↑y26a.length : Int) - (1 : Int))).toNat) []) most) fun (y46a, y46b) =>
      .br (y46b == (22 : Int)) (.ret ((0 : Int), (400 : Int)))
      (.br (y46b == (23 : Int)) (.ret ((0 : Int), (413 : Int)))
      (.ret (y46a, (0 : Int))))))
     (.call (q3a.f (y26a.getD ((0 : Nat) + (IntKind.i64.wrap ((↑y26a.length : Int) - (1 : Int))).toNat) []) most) fun (y47a, y47b) =>
     .br (y47b == (22 : Int)) (.ret ((0 : Int), (400 : Int)))
     (.br (y47b == (23 : Int)) (.ret ((0 : Int), (413 : Int)))
      (.ret (y47a, (0 : Int))))))
    (.call (q3a.f (y26a.getD ((0 : Nat) + (IntKind.i64.wrap ((↑y26a.length : Int) - (1 : Int))).toNat) []) most) fun (y48a, y48b) =>
     .br (y48b == (22 : Int)) (.ret ((0 : Int), (400 : Int)))
     (.br (y48b == (23 : Int)) (.ret ((0 : Int), (413 : Int)))
     (.ret (y48a, (0 : Int))))))
    (.ret ((0 : Int), (400 : Int))))))))
def f (values : List (Ls)) (p : Int) (most : Int) : Option (Int × Int) := (t values p most).val
def F (x : D.den) : Option (Int × Int) := f x.1.1 x.2.1 x.2.2.1
def pa : D.den → (Int × Int) → A.den := fun ((values, _), (_, (_, _))) (y1, y2) => ((values, ()), (y1, y2))
def con : Con := tcon D A pa F
theorem ok : ConOk Try.prog 95 con := tcon_ok Base.mixed Base.prog_ok q6o (by kernel_rfl) (.cons L8.ok (by kernel_rfl) (.nil)) 9 (fun _ => rfl) (fun x => t x.1.1 x.2.1 x.2.2.1) (fun _ => rfl) fun _ _ _ => (by kernel_rfl)
end q71
def q72 : Book := q6n.add 95 q71.con
theorem q73 : BookOk Try.prog q72 := q6o.add q71.ok
namespace q6p
def D : Dom := ⟨[.vec (.pair .str .str) 99 true], (.cat (.int .u32) (.cat (.agg (.cat (.int .i64) (.cat (.int .i64) (.cat (.int .i64) (.cat (.int .i64) (.cat (.int .i64) (.cat (.int .i64) (.cat (.int .i64) (.cat (.int .i64) (.cat .bool .bool)))))))))) (.cat (.int .i64) (.sl 0 2))))⟩
def A : Dom := ⟨[.vec (.pair .str .str) 99 true], (.tup (.cat (.agg (.cat (.int .i64) (.int .i64))) (.int .i64)))⟩
def t (l : Lf) (p : Int) (Body : Int) (Chunked : Bool) (minor : Int) : Tr (Int × Int × Int) :=
 .chk ((0 : Nat) + l.length ≤ l.length) <| .call (q6v.f (List.take l.length (List.drop (0 : Nat) l)) p minor) fun y1 =>
 .br (y1 != (0 : Int)) (.ret ((0 : Int), 0, y1))
 (.chk ((0 : Nat) + l.length ≤ l.length) <| .call (q3j.f (List.take l.length (List.drop (0 : Nat) l)) [(84 : UInt8), 114, 97, 110, 115, 102, 101, 114, 45, 69, 110, 99, 111, 100, 105, 110, 103]) fun y2 =>
  .chk ((0 : Nat) + l.length ≤ l.length) <| .call (q3j.f (List.take l.length (List.drop (0 : Nat) l)) [(67 : UInt8), 111, 110, 116, 101, 110, 116, 45, 76, 101, 110, 103, 116, 104]) fun y3 =>
  .br (decide ((↑y2.length : Int) > (0 : Int))) (.br (minor == (0 : Int)) (.call (q4v.f p (20 : Int)) fun y4 =>
   .br (!y4) (.ret ((0 : Int), 0, (400 : Int)))
   (.chk ((0 : Nat) + y2.length ≤ y2.length) <| .call (q6m.f (List.take y2.length (List.drop (0 : Nat) y2)) p) fun y5 =>
   .br y5 (.br ((↑y3.length : Int) == (0 : Int)) (.br (!Chunked) (.ret ((0 : Int), 0, (501 : Int)))
    (.ret ((2 : Int), 0, (0 : Int))))
    (.call (q4v.f p (21 : Int)) fun y6 =>
    .br y6 (.br (!Chunked) (.ret ((0 : Int), 0, (501 : Int)))
     (.ret ((2 : Int), 0, (0 : Int))))
    (.chk ((0 : Nat) + y2.length ≤ y2.length) <| .call (q6m.f (List.take y2.length (List.drop (0 : Nat) y2)) p) fun y7 =>
     .br y7 (.call (q4v.f p (22 : Int)) fun y8 =>
     .br (!y8) (.ret ((0 : Int), 0, (400 : Int)))
     (.chk ((0 : Nat) + y2.length ≤ y2.length) <| .call (q6m.f (List.take y2.length (List.drop (0 : Nat) y2)) p) fun y9 =>
      .br (!y9) (.call (q4v.f p (19 : Int)) fun y10 =>
      .br (!y10) (.ret ((0 : Int), 0, (501 : Int)))
      (.chk ((0 : Nat) + y3.length ≤ y3.length) <| .call (q71.f (List.take y3.length (List.drop (0 : Nat) y3)) p Body) fun (y11a, y11b) =>
       .br (y11b != (0 : Int)) (.ret ((0 : Int), 0, y11b))
       (.ret ((1 : Int), y11a, (0 : Int)))))
      (.chk ((0 : Nat) + y3.length ≤ y3.length) <| .call (q71.f (List.take y3.length (List.drop (0 : Nat) y3)) p Body) fun (y12a, y12b) =>
      .br (y12b != (0 : Int)) (.ret ((0 : Int), 0, y12b))
      (.ret ((1 : Int), y12a, (0 : Int))))))
     (.chk ((0 : Nat) + y2.length ≤ y2.length) <| .call (q6m.f (List.take y2.length (List.drop (0 : Nat) y2)) p) fun y13 =>
     .br (!y13) (.call (q4v.f p (19 : Int)) fun y14 =>
      .br (!y14) (.ret ((0 : Int), 0, (501 : Int)))
      (.chk ((0 : Nat) + y3.length ≤ y3.length) <| .call (q71.f (List.take y3.length (List.drop (0 : Nat) y3)) p Body) fun (y15a, y15b) =>
      .br (y15b != (0 : Int)) (.ret ((0 : Int), 0, y15b))
      (.ret ((1 : Int), y15a, (0 : Int)))))
     (.chk ((0 : Nat) + y3.length ≤ y3.length) <| .call (q71.f (List.take y3.length (List.drop (0 : Nat) y3)) p Body) fun (y16a, y16b) =>
      .br (y16b != (0 : Int)) (.ret ((0 : Int), 0, y16b))
      (.ret ((1 : Int), y16a, (0 : Int))))))))
   (.chk ((0 : Nat) + y2.length ≤ y2.length) <| .call (q6m.f (List.take y2.length (List.drop (0 : Nat) y2)) p) fun y17 =>
    .br y17 (.call (q4v.f p (22 : Int)) fun y18 =>
    .br (!y18) (.ret ((0 : Int), 0, (400 : Int)))
    (.chk ((0 : Nat) + y2.length ≤ y2.length) <| .call (q6m.f (List.take y2.length (List.drop (0 : Nat) y2)) p) fun y19 =>
     .br (!y19) (.call (q4v.f p (19 : Int)) fun y20 =>
     .br (!y20) (.ret ((0 : Int), 0, (501 : Int)))
     (.chk ((0 : Nat) + y3.length ≤ y3.length) <| .call (q71.f (List.take y3.length (List.drop (0 : Nat) y3)) p Body) fun (y21a, y21b) =>
      .br (y21b != (0 : Int)) (.ret ((0 : Int), 0, y21b))
      (.ret ((1 : Int), y21a, (0 : Int)))))
     (.chk ((0 : Nat) + y3.length ≤ y3.length) <| .call (q71.f (List.take y3.length (List.drop (0 : Nat) y3)) p Body) fun (y22a, y22b) =>
     .br (y22b != (0 : Int)) (.ret ((0 : Int), 0, y22b))
     (.ret ((1 : Int), y22a, (0 : Int))))))
    (.chk ((0 : Nat) + y2.length ≤ y2.length) <| .call (q6m.f (List.take y2.length (List.drop (0 : Nat) y2)) p) fun y23 =>
    .br (!y23) (.call (q4v.f p (19 : Int)) fun y24 =>
     .br (!y24) (.ret ((0 : Int), 0, (501 : Int)))
     (.chk ((0 : Nat) + y3.length ≤ y3.length) <| .call (q71.f (List.take y3.length (List.drop (0 : Nat) y3)) p Body) fun (y25a, y25b) =>
     .br (y25b != (0 : Int)) (.ret ((0 : Int), 0, y25b))
     (.ret ((1 : Int), y25a, (0 : Int)))))
    (.chk ((0 : Nat) + y3.length ≤ y3.length) <| .call (q71.f (List.take y3.length (List.drop (0 : Nat) y3)) p Body) fun (y26a, y26b) =>
     .br (y26b != (0 : Int)) (.ret ((0 : Int), 0, y26b))
     (.ret ((1 : Int), y26a, (0 : Int))))))))
  (.chk ((0 : Nat) + y2.length ≤ y2.length) <| .call (q6m.f (List.take y2.length (List.drop (0 : Nat) y2)) p) fun y27 =>
   .br y27 (.br ((↑y3.length : Int) == (0 : Int)) (.br (!Chunked) (.ret ((0 : Int), 0, (501 : Int)))
    (.ret ((2 : Int), 0, (0 : Int))))
   (.call (q4v.f p (21 : Int)) fun y28 =>
    .br y28 (.br (!Chunked) (.ret ((0 : Int), 0, (501 : Int)))
    (.ret ((2 : Int), 0, (0 : Int))))
    (.chk ((0 : Nat) + y2.length ≤ y2.length) <| .call (q6m.f (List.take y2.length (List.drop (0 : Nat) y2)) p) fun y29 =>
    .br y29 (.call (q4v.f p (22 : Int)) fun y30 =>
     .br (!y30) (.ret ((0 : Int), 0, (400 : Int)))
     (.chk ((0 : Nat) + y2.length ≤ y2.length) <| .call (q6m.f (List.take y2.length (List.drop (0 : Nat) y2)) p) fun y31 =>
     .br (!y31) (.call (q4v.f p (19 : Int)) fun y32 =>
      .br (!y32) (.ret ((0 : Int), 0, (501 : Int)))
      (.chk ((0 : Nat) + y3.length ≤ y3.length) <| .call (q71.f (List.take y3.length (List.drop (0 : Nat) y3)) p Body) fun (y33a, y33b) =>
      .br (y33b != (0 : Int)) (.ret ((0 : Int), 0, y33b))
      (.ret ((1 : Int), y33a, (0 : Int)))))
     (.chk ((0 : Nat) + y3.length ≤ y3.length) <| .call (q71.f (List.take y3.length (List.drop (0 : Nat) y3)) p Body) fun (y34a, y34b) =>
      .br (y34b != (0 : Int)) (.ret ((0 : Int), 0, y34b))
      (.ret ((1 : Int), y34a, (0 : Int))))))
    (.chk ((0 : Nat) + y2.length ≤ y2.length) <| .call (q6m.f (List.take y2.length (List.drop (0 : Nat) y2)) p) fun y35 =>
     .br (!y35) (.call (q4v.f p (19 : Int)) fun y36 =>
     .br (!y36) (.ret ((0 : Int), 0, (501 : Int)))
     (.chk ((0 : Nat) + y3.length ≤ y3.length) <| .call (q71.f (List.take y3.length (List.drop (0 : Nat) y3)) p Body) fun (y37a, y37b) =>
      .br (y37b != (0 : Int)) (.ret ((0 : Int), 0, y37b))
      (.ret ((1 : Int), y37a, (0 : Int)))))
     (.chk ((0 : Nat) + y3.length ≤ y3.length) <| .call (q71.f (List.take y3.length (List.drop (0 : Nat) y3)) p Body) fun (y38a, y38b) =>
     .br (y38b != (0 : Int)) (.ret ((0 : Int), 0, y38b))
     (.ret ((1 : Int), y38a, (0 : Int))))))))
   (.chk ((0 : Nat) + y2.length ≤ y2.length) <| .call (q6m.f (List.take y2.length (List.drop (0 : Nat) y2)) p) fun y39 =>
   .br y39 (.call (q4v.f p (22 : Int)) fun y40 =>
    .br (!y40) (.ret ((0 : Int), 0, (400 : Int)))
    (.chk ((0 : Nat) + y2.length ≤ y2.length) <| .call (q6m.f (List.take y2.length (List.drop (0 : Nat) y2)) p) fun y41 =>
    .br (!y41) (.call (q4v.f p (19 : Int)) fun y42 =>
     .br (!y42) (.ret ((0 : Int), 0, (501 : Int)))
     (.chk ((0 : Nat) + y3.length ≤ y3.length) <| .call (q71.f (List.take y3.length (List.drop (0 : Nat) y3)) p Body) fun (y43a, y43b) =>
     .br (y43b != (0 : Int)) (.ret ((0 : Int), 0, y43b))
     (.ret ((1 : Int), y43a, (0 : Int)))))
    (.chk ((0 : Nat) + y3.length ≤ y3.length) <| .call (q71.f (List.take y3.length (List.drop (0 : Nat) y3)) p Body) fun (y44a, y44b) =>
     .br (y44b != (0 : Int)) (.ret ((0 : Int), 0, y44b))
     (.ret ((1 : Int), y44a, (0 : Int))))))
   (.chk ((0 : Nat) + y2.length ≤ y2.length) <| .call (q6m.f (List.take y2.length (List.drop (0 : Nat) y2)) p) fun y45 =>
    .br (!y45) (.call (q4v.f p (19 : Int)) fun y46 =>
    .br (!y46) (.ret ((0 : Int), 0, (501 : Int)))
    (.chk ((0 : Nat) + y3.length ≤ y3.length) <| .call (q71.f (List.take y3.length (List.drop (0 : Nat) y3)) p Body) fun (y47a, y47b) =>
     .br (y47b != (0 : Int)) (.ret ((0 : Int), 0, y47b))
     (.ret ((1 : Int), y47a, (0 : Int)))))
    (.chk ((0 : Nat) + y3.length ≤ y3.length) <| .call (q71.f (List.take y3.length (List.drop (0 : Nat) y3)) p Body) fun (y48a, y48b) =>
    .br (y48b != (0 : Int)) (.ret ((0 : Int), 0, y48b))
    (.ret ((1 : Int), y48a, (0 : Int))))))))
  (.chk ((0 : Nat) + y3.length ≤ y3.length) <| .call (q71.f (List.take y3.length (List.drop (0 : Nat) y3)) p Body) fun (y49a, y49b) =>
  .br (y49b != (0 : Int)) (.ret ((0 : Int), 0, y49b))
  (.ret ((1 : Int), y49a, (0 : Int)))))
def f (l : Lf) (p : Int) (Body : Int) (Chunked : Bool) (minor : Int) : Option (Int × Int × Int) := (t l p Body Chunked minor).val
def F (x : D.den) : Option (Int × Int × Int) := f x.1.1 x.2.1 x.2.2.1.2.2.2.1 x.2.2.1.2.2.2.2.2.2.2.2.1 x.2.2.2.1
def pa : D.den → (Int × Int × Int) → A.den := fun ((l, _), (_, ((_, (_, (_, (_, (_, (_, (_, (_, (_, _))))))))), (_, _)))) (y1, y2, y3) => ((l, ()), ((y1, y2), y3))
def con : Con := tcon D A pa F
theorem ok : ConOk Try.prog 77 con := tcon_ok Base.mixed Base.prog_ok q73 (by kernel_rfl) LapsOk.nil 9 (fun _ => rfl) (fun x => t x.1.1 x.2.1 x.2.2.1.2.2.2.1 x.2.2.1.2.2.2.2.2.2.2.2.1 x.2.2.2.1) (fun _ => rfl) fun _ _ _ => (by kernel_rfl)
end q6p
def q6q : Book := q72.add 77 q6p.con
theorem q6r : BookOk Try.prog q6q := q73.add q6p.ok
end Go.Vx
end
