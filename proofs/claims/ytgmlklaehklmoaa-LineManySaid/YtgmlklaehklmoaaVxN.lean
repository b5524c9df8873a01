/- Calls by contract. (A help: no statement of the seat is proved here.) -/
import Derived.Test.YtgmlklaehklmoaaVxM
set_option linter.unusedVariables false
set_option linter.unusedSimpArgs false
namespace Go.Vx

/-! Matches, told. -/
def matLitS (v : AV) (l : List AV) (k : List AV → Prop) : Prop := match l with
  | u :: l => match litOk v u with
    | true => k l
    | false => False
  | [] => False
def matPtrS (g e z o : Nat) (l : List AV) (ρ : Rho) (k : List AV → Rho → Prop) : Prop := match l with
  | .ptr _ (some r) :: l => match Nat.beq r.e e && Nat.beq r.z z && Nat.beq r.o o with
    | true => match ρ.find g with
      | none => k l ((g, .whole r.g) :: ρ)
      | some (.whole g') => match Nat.beq g' r.g with
        | true => k l ρ
        | false => False
      | _ => False
    | false => False
  | _ => False
def matSlS (H : Heap) (g z : Nat) (l : List AV) (ρ : Rho) (k : List AV → Rho → Prop) : Prop := match l with
  | .slice _ none _ _ :: l => match ρ.find g with
      | none => k l ((g, .nil) :: ρ)
      | some .nil => k l ρ
      | _ => False
  | .slice t (some r) n z' :: l => match Nat.beq z' z && Nat.beq r.z z && Nat.beq r.o 0 with
    | true => match ρ.find g with
      | none => k l ((g, .win r.g r.e n z) :: ρ)
      | some (.whole g') => match Nat.beq g' r.g with
        | true => must (rowLen H r.g z) fun m => need true (r.e = 0 ∧ n = m) (k l ρ)
        | false => False
      | _ => False
    | false => False
  | .vec t x :: l => match Nat.beq t.z z with
    | true => match ρ.find g with
      | none => k l ((g, .inl t x) :: ρ)
      | _ => False
    | false => False
  | _ => False
def matDatS (H : Heap) (t : Ty) (l : List AV) (k : List t.den → List AV → Prop) : Prop := match l with
  | .slice _ (some r) n z :: l => match H.get r.g with
    | some (.fro t' L _) => if h : t' = t then (match Nat.beq r.z t'.z && Nat.beq r.o 0 && Nat.beq z t'.z with
      | true => need true (r.e + n ≤ L.length) (k (h ▸ (L.drop r.e).take n) l)
      | false => False) else False
    | _ => False
  | l => decSlS t l k
def matPartS (g z : Nat) (l : List AV) (ρ : Rho) (k : Nat × Nat → List AV → Rho → Prop) : Prop := match l with
  | .slice _ (some r) n z' :: l => match Nat.beq z' z && Nat.beq r.z z && Nat.beq r.o 0 with
    | true => match ρ.find g with
      | none => k (r.e, n) l ((g, .whole r.g) :: ρ)
      | some (.whole g') => match Nat.beq g' r.g with
        | true => k (r.e, n) l ρ
        | false => False
      | _ => False
    | false => False
  | _ => False
def matVS (H : Heap) : (p : VP) → List AV → Rho → (p.den → List AV → Rho → Prop) → Prop
  | .bool, l, ρ, k => decBoolS l fun x l => k x l ρ
  | .int kd, l, ρ, k => decIntS kd l fun x l => k x l ρ
  | .num kd, l, ρ, k => decIntS kd l fun x l => k x l ρ
  | .byte, l, ρ, k => decByteS l fun x l => k x l ρ
  | .str, l, ρ, k => decStrS l fun x l => k x l ρ
  | .vec t, l, ρ, k => matDatS H t l fun x l => k x l ρ
  | .lit v, l, ρ, k => matLitS v l fun l => k () l ρ
  | .ptr g e z o, l, ρ, k => matPtrS g e z o l ρ fun l ρ => k () l ρ
  | .sl g z, l, ρ, k => matSlS H g z l ρ fun l ρ => k () l ρ
  | .part g z, l, ρ, k => matPartS g z l ρ k
  | .nil, l, ρ, k => k () l ρ
  | .cat a b, l, ρ, k => matVS H a l ρ fun x l ρ => matVS H b l ρ fun y l ρ => k (x, y) l ρ
  | .agg p, l, ρ, k => match l with
    | .agg cs :: l => matVS H p cs ρ fun x rest ρ => match rest with
      | [] => k x l ρ
      | _ => False
    | _ => False
  | .tup p, l, ρ, k => match l with
    | .tup cs :: l => matVS H p cs ρ fun x rest ρ => match rest with
      | [] => k x l ρ
      | _ => False
    | _ => False
  | .func f p q, l, ρ, k => match l with
    | .func f' xs ys :: l => if f' = f then matVS H p xs ρ fun x rest ρ => match rest with
        | [] => matVS H q ys ρ fun y rest ρ => match rest with
          | [] => k (x, y) l ρ
          | _ => False
        | _ => False
      else False
    | _ => False
def matVecS (H : Heap) (t : Ty) (ro : Bool) (s : Src) (k : List t.den → Prop) : Prop := match s with
  | .whole g => match H.get g with
    | some (.vec t' L _ ro') => if h : t' = t then (match ro || !ro' with
      | true => k (h ▸ L)
      | false => False) else False
    | _ => False
  | .win g e n z => match Nat.beq z t.z && !(Nat.beq z 0) with
    | true => match H.get g with
      | some (.vec t' L _ ro') => if h : t' = t then
          (match ro with
            | true => need true (e + n ≤ L.length) (k (h ▸ (L.drop e).take n))
            | false => match ro' with
              | false => need true (e = 0 ∧ n = L.length) (k (h ▸ L))
              | true => False) else False
      | some (.fro t' L _) => if h : t' = t then
          (match ro with
            | true => need true (e + n ≤ L.length) (k (h ▸ (L.drop e).take n))
            | false => False) else False
      | some (.cells cs _ ro') => match ro with
        | true => match Nat.ble (e * z + n * z) cs.length with
          | true => decLS t ((cs.drop (e * z)).take (n * z)) k
          | false => False
        | false => match Nat.beq e 0 && Nat.beq (n * z) cs.length && !ro' with
          | true => decLS t cs k
          | false => False
      | _ => False
    | false => False
  | .nil => k []
  | .inl t' l => if h : t' = t then (match ro && !(Nat.beq t.z 0) with
    | true => k (h ▸ l)
    | false => False) else False
def matRS (H : Heap) : (r : RP) → Option Src → Rho → (r.den → Rho → Prop) → Prop
  | .dead, _, ρ, k => k () ρ
  | .vec t _ ro, s, ρ, k => match s with
    | some s => matVecS H t ro s fun l => k l ρ
    | none => False
  | .cells p _ ro, s, ρ, k => match s with
    | some (.whole g) => match H.get g with
      | some (.cells cs _ ro') => match ro || !ro' with
        | true => matVS H p cs ρ fun x rest ρ => match rest with
          | [] => k x ρ
          | _ => False
        | false => False
      | _ => False
    | _ => False
def matRsS (H : Heap) : (rs : List RP) → Nat → Rho → (rowsDen rs → Rho → Prop) → Prop
  | [], _, ρ, k => k () ρ
  | r :: rs, i, ρ, k => matRS H r (ρ.find i) ρ fun x ρ => matRsS H rs (i + 1) ρ fun xs ρ => k (x, xs) ρ
def Dom.matS (D : Dom) (vs : List AV) (H : Heap) (ρ0 : Rho) (k : D.den → Rho → Prop) : Prop :=
  matVS H D.vals vs ρ0 fun xv rest ρ1 => match rest with
    | [] => matRsS H D.rows 0 ρ1 fun xr ρ => match below D.rows.length ρ && injOk (froms ρ D.rows 0) && deads H ρ D.rows 0 && slsOk D with
      | true => k (xr, xv) ρ
      | false => False
    | _ => False

theorem matVS_elim {H : Heap} : (p : VP) → {l : List AV} → {ρ : Rho} → {k : p.den → List AV → Rho → Prop} → matVS H p l ρ k → ∃ x l' ρ', matV H p l ρ = some (x, l', ρ') ∧ k x l' ρ'
  | .bool, l, ρ, k, h => by
    simp only [matVS] at h
    obtain ⟨x, l', hd, hk⟩ := decS_elim .bool (k := fun x l => k x l ρ) h
    simp only [dec] at hd
    exact ⟨x, l', ρ, by simp only [matV, hd, Option.map_some], hk⟩
  | .int kd, l, ρ, k, h => by
    simp only [matVS] at h
    obtain ⟨x, l', hd, hk⟩ := decS_elim (.int kd) (k := fun x l => k x l ρ) h
    simp only [dec] at hd
    exact ⟨x, l', ρ, by simp only [matV, hd, Option.map_some], hk⟩
  | .num kd, l, ρ, k, h => by
    simp only [matVS] at h
    obtain ⟨x, l', hd, hk⟩ := decS_elim (.int kd) (k := fun x l => k x l ρ) h
    simp only [dec] at hd
    exact ⟨x, l', ρ, by simp only [matV, hd, Option.map_some], hk⟩
  | .byte, l, ρ, k, h => by
    simp only [matVS] at h
    obtain ⟨x, l', hd, hk⟩ := decS_elim .byte (k := fun x l => k x l ρ) h
    simp only [dec] at hd
    exact ⟨x, l', ρ, by simp only [matV, hd, Option.map_some], hk⟩
  | .str, l, ρ, k, h => by
    simp only [matVS] at h
    obtain ⟨x, l', hd, hk⟩ := decS_elim .str (k := fun x l => k x l ρ) h
    simp only [dec] at hd
    exact ⟨x, l', ρ, by simp only [matV, hd, Option.map_some], hk⟩
  | .vec t, l, ρ, k, h => by
    simp only [matVS] at h
    unfold matDatS at h
    split at h
    · split at h
      · rename_i hg
        split at h
        · rename_i ht
          split at h
          · rename_i hb
            simp only [Bool.and_eq_true] at hb
            obtain ⟨h1, h2⟩ := need_elim h
            exact ⟨_, _, ρ, by simp only [matV, matDat, hg, dif_pos ht]; rw [if_pos ⟨Nat.eq_of_beq_eq_true hb.1.1, Nat.eq_of_beq_eq_true hb.1.2, Nat.eq_of_beq_eq_true hb.2, h1⟩]; rfl, h2⟩
          · exact h.elim
        · exact h.elim
      · exact h.elim
    · rename_i hn
      obtain ⟨x, l', hd, hk⟩ := decS_elim (.sl t) (k := fun x l => k x l ρ) h
      simp only [dec] at hd
      have e : matDat H t l = decSl t l := by
        unfold matDat
        split
        · rename_i b r n z l'; exact absurd rfl (hn b r n z l')
        · rfl
      exact ⟨x, l', ρ, by simp only [matV, e, hd, Option.map_some], hk⟩
  | .lit v, l, ρ, k, h => by
    simp only [matVS] at h
    unfold matLitS at h
    split at h
    · split at h
      · rename_i hl; exact ⟨(), _, ρ, by simp only [matV, matLit, if_pos hl, Option.map_some], h⟩
      · exact h.elim
    · exact h.elim
  | .ptr g e z o, l, ρ, k, h => by
    simp only [matVS] at h
    unfold matPtrS at h
    split at h
    · split at h
      · rename_i hc
        simp only [Bool.and_eq_true] at hc
        have hc' := And.intro (Nat.eq_of_beq_eq_true hc.1.1) (And.intro (Nat.eq_of_beq_eq_true hc.1.2) (Nat.eq_of_beq_eq_true hc.2))
        split at h
        · rename_i hf; exact ⟨(), _, _, by simp only [matV, matPtr, if_pos hc', hf, Option.map_some], h⟩
        · rename_i g' hf
          split at h
          · rename_i hg; exact ⟨(), _, _, by simp only [matV, matPtr, if_pos hc', hf, if_pos (Nat.eq_of_beq_eq_true hg), Option.map_some], h⟩
          · exact h.elim
        · exact h.elim
      · exact h.elim
    · exact h.elim
  | .sl g z, l, ρ, k, h => by
    simp only [matVS] at h
    unfold matSlS at h
    split at h
    · split at h
      · rename_i hf; exact ⟨(), _, _, by simp only [matV, matSl, hf, Option.map_some], h⟩
      · rename_i hf; exact ⟨(), _, _, by simp only [matV, matSl, hf, Option.map_some], h⟩
      · exact h.elim
    · split at h
      · rename_i hc
        simp only [Bool.and_eq_true] at hc
        have hc' := And.intro (Nat.eq_of_beq_eq_true hc.1.1) (And.intro (Nat.eq_of_beq_eq_true hc.1.2) (Nat.eq_of_beq_eq_true hc.2))
        split at h
        · rename_i hf; exact ⟨(), _, _, by simp only [matV, matSl, if_pos hc', hf, Option.map_some], h⟩
        · rename_i g' hf
          split at h
          · rename_i hg
            obtain ⟨m, hm, h⟩ := must_elim h
            obtain ⟨h1, h2⟩ := need_elim h
            exact ⟨(), _, _, by simp only [matV, matSl, if_pos hc', hf]; rw [if_pos ⟨Nat.eq_of_beq_eq_true hg, h1.1, by rw [hm, h1.2]⟩]; rfl, h2⟩
          · exact h.elim
        · exact h.elim
      · exact h.elim
    · split at h
      · rename_i hz
        split at h
        · rename_i hf; exact ⟨(), _, _, by simp only [matV, matSl, if_pos (Nat.eq_of_beq_eq_true hz), hf, Option.map_some], h⟩
        · exact h.elim
      · exact h.elim
    · exact h.elim
  | .part g z, l, ρ, k, h => by
    simp only [matVS] at h
    unfold matPartS at h
    split at h
    · split at h
      · rename_i hc
        simp only [Bool.and_eq_true] at hc
        have hc' := And.intro (Nat.eq_of_beq_eq_true hc.1.1) (And.intro (Nat.eq_of_beq_eq_true hc.1.2) (Nat.eq_of_beq_eq_true hc.2))
        split at h
        · rename_i hf; exact ⟨_, _, _, by simp only [matV, matPart, if_pos hc', hf], h⟩
        · rename_i g' hf
          split at h
          · rename_i hg; exact ⟨_, _, _, by simp only [matV, matPart, if_pos hc', hf, if_pos (Nat.eq_of_beq_eq_true hg)], h⟩
          · exact h.elim
        · exact h.elim
      · exact h.elim
    · exact h.elim
  | .nil, l, ρ, k, h => ⟨(), l, ρ, rfl, h⟩
  | .cat a b, l, ρ, k, h => by
    simp only [matVS] at h
    obtain ⟨x, l1, ρ1, h1, h⟩ := matVS_elim a h
    obtain ⟨y, l2, ρ2, h2, h⟩ := matVS_elim b h
    exact ⟨_, _, _, by simp only [matV, h1, h2], h⟩
  | .agg p, l, ρ, k, h => by
    simp only [matVS] at h
    split at h
    · obtain ⟨x, l1, ρ1, h1, h⟩ := matVS_elim p h
      split at h
      · exact ⟨_, _, _, by simp only [matV, h1], h⟩
      · exact h.elim
    · exact h.elim
  | .tup p, l, ρ, k, h => by
    simp only [matVS] at h
    split at h
    · obtain ⟨x, l1, ρ1, h1, h⟩ := matVS_elim p h
      split at h
      · exact ⟨_, _, _, by simp only [matV, h1], h⟩
      · exact h.elim
    · exact h.elim
  | .func f p q, l, ρ, k, h => by
    simp only [matVS] at h
    split at h
    · split at h
      · rename_i hf
        obtain ⟨x, l1, ρ1, h1, h⟩ := matVS_elim p h
        split at h
        · obtain ⟨y, l2, ρ2, h2, h⟩ := matVS_elim q h
          split at h
          · exact ⟨_, _, _, by simp only [matV, if_pos hf, h1, h2], h⟩
          · exact h.elim
        · exact h.elim
      · exact h.elim
    · exact h.elim
theorem matVecS_elim {H : Heap} {t : Ty} {ro : Bool} {s : Src} {k : List t.den → Prop} (h : matVecS H t ro s k) : ∃ l, matVec H t ro s = some l ∧ k l := by
  unfold matVecS at h
  split at h
  · split at h
    · rename_i hg
      split at h
      · rename_i ht
        split at h
        · rename_i hr
          refine ⟨_, ?_, h⟩
          simp only [matVec, hg, dif_pos ht]
          rw [if_pos (by intro e; rw [e] at hr; simpa using hr)]
        · exact h.elim
      · exact h.elim
    · exact h.elim
  · split at h
    · rename_i hz
      have hz' : ∀ {z : Nat}, (Nat.beq z t.z && !(Nat.beq z 0)) = true → z = t.z ∧ z ≠ 0 := by
        intro z hz
        simp only [Bool.and_eq_true, Bool.not_eq_true'] at hz
        exact ⟨Nat.eq_of_beq_eq_true hz.1, Nat.ne_of_beq_eq_false hz.2⟩
      have hz := hz' hz
      split at h
      · rename_i hg
        split at h
        · rename_i ht
          split at h
          · obtain ⟨h1, h2⟩ := need_elim h
            exact ⟨_, by simp only [matVec, if_pos hz, hg, dif_pos ht, if_pos h1], h2⟩
          · split at h
            · obtain ⟨h1, h2⟩ := need_elim h
              exact ⟨_, by simp only [matVec, if_pos hz, hg, dif_pos ht]; rw [if_pos ⟨h1.1, h1.2, trivial⟩], h2⟩
            · exact h.elim
        · exact h.elim
      · rename_i hg
        split at h
        · rename_i ht
          split at h
          · obtain ⟨h1, h2⟩ := need_elim h
            exact ⟨_, by simp only [matVec, if_pos hz, hg, dif_pos ht, if_pos h1], h2⟩
          · exact h.elim
        · exact h.elim
      · rename_i hg
        split at h
        · split at h
          · rename_i hb
            obtain ⟨l, hl, hk⟩ := decLS_elim h
            exact ⟨l, by simp only [matVec, if_pos hz, hg, if_pos (Nat.le_of_ble_eq_true hb), hl], hk⟩
          · exact h.elim
        · split at h
          · rename_i hb
            obtain ⟨l, hl, hk⟩ := decLS_elim h
            simp only [Bool.and_eq_true, Bool.not_eq_true'] at hb
            exact ⟨l, by simp only [matVec, if_pos hz, hg]; rw [if_pos ⟨Nat.eq_of_beq_eq_true hb.1.1, Nat.eq_of_beq_eq_true hb.1.2, hb.2⟩, hl], hk⟩
          · exact h.elim
      · exact h.elim
    · exact h.elim
  · exact ⟨[], rfl, h⟩
  · split at h
    · rename_i ht
      split at h
      · rename_i hc
        simp only [Bool.and_eq_true, Bool.not_eq_true'] at hc
        exact ⟨_, by simp only [matVec, dif_pos ht]; rw [if_pos ⟨hc.1, Nat.ne_of_beq_eq_false hc.2⟩], h⟩
      · exact h.elim
    · exact h.elim
theorem matRS_elim {H : Heap} : (r : RP) → {s : Option Src} → {ρ : Rho} → {k : r.den → Rho → Prop} → matRS H r s ρ k → ∃ x ρ', matR H r s ρ = some (x, ρ') ∧ k x ρ'
  | .dead, s, ρ, k, h => ⟨(), ρ, rfl, h⟩
  | .vec t e ro, s, ρ, k, h => by
    simp only [matRS] at h
    split at h
    · obtain ⟨l, hl, hk⟩ := matVecS_elim h
      exact ⟨l, ρ, by simp only [matR, hl, Option.map_some], hk⟩
    · exact h.elim
  | .cells p e ro, s, ρ, k, h => by
    simp only [matRS] at h
    split at h
    · split at h
      · rename_i hg
        split at h
        · rename_i hr
          obtain ⟨x, l1, ρ1, h1, h⟩ := matVS_elim p h
          split at h
          · refine ⟨_, _, ?_, h⟩
            simp only [matR, hg]
            rw [if_pos (by intro e; rw [e] at hr; simpa using hr), h1]
          · exact h.elim
        · exact h.elim
      · exact h.elim
    · exact h.elim
theorem matRsS_elim {H : Heap} : (rs : List RP) → {i : Nat} → {ρ : Rho} → {k : rowsDen rs → Rho → Prop} → matRsS H rs i ρ k → ∃ x ρ', matRs H rs i ρ = some (x, ρ') ∧ k x ρ'
  | [], i, ρ, k, h => ⟨(), ρ, rfl, h⟩
  | r :: rs, i, ρ, k, h => by
    simp only [matRsS] at h
    obtain ⟨x, ρ1, h1, h⟩ := matRS_elim r h
    obtain ⟨xs, ρ2, h2, h⟩ := matRsS_elim rs h
    exact ⟨_, _, by simp only [matRs, h1, h2], h⟩
theorem Dom.matS_elim {D : Dom} {vs : List AV} {H : Heap} {ρ0 : Rho} {k : D.den → Rho → Prop} (h : D.matS vs H ρ0 k) : ∃ x ρ, D.mat vs H ρ0 = some (x, ρ) ∧ k x ρ := by
  unfold Dom.matS at h
  obtain ⟨xv, l1, ρ1, h1, h⟩ := matVS_elim D.vals h
  split at h
  · obtain ⟨xr, ρ2, h2, h⟩ := matRsS_elim D.rows h
    split at h
    · rename_i hc
      simp only [Bool.and_eq_true] at hc
      refine ⟨_, _, ?_, h⟩
      unfold Dom.mat
      simp only [h1, h2]
      rw [if_pos ⟨hc.1.1.1, hc.1.1.2, hc.1.2, hc.2⟩]
    · exact h.elim
  · exact h.elim

/-! The way back, told. -/
mutual
def backS (W : Way) : AV → (AV → Prop) → Prop
  | .ptr t none, k => k (.ptr t none)
  | .ptr t (some r), k => match W.to r.g with
    | some (.row g) => k (.ptr t (some ⟨g, r.e, r.z, r.o⟩))
    | some (.win g e z) => match Nat.beq r.z z with
      | true => k (.ptr t (some ⟨g, e + r.e, r.z, r.o⟩))
      | false => False
    | some (.inl t' l) => match Nat.beq r.z t'.z with
      | true => k (.eptr t' l r.e r.o)
      | false => False
    | none => False
  | .slice t none n z, k => k (.slice t none n z)
  | .slice t (some r) n z, k => match W.to r.g with
    | some (.row g) => k (.slice t (some ⟨g, r.e, r.z, r.o⟩) n z)
    | some (.win g e z') => match Nat.beq r.z z' with
      | true => k (.slice t (some ⟨g, e + r.e, r.z, r.o⟩) n z)
      | false => False
    | some (.inl t' l) => match Nat.beq r.z t'.z && Nat.beq r.o 0 && Nat.beq z t'.z with
      | true => need true (r.e + n ≤ l.length) (k (.vec t' ((l.drop r.e).take n)))
      | false => False
    | none => False
  | .agg l, k => backLS W l fun l => k (.agg l)
  | .tup l, k => backLS W l fun l => k (.tup l)
  | .func f a b, k => backLS W a fun a => backLS W b fun b => k (.func f a b)
  | v, k => k v
def backLS (W : Way) : List AV → (List AV → Prop) → Prop
  | [], k => k []
  | v :: l, k => backS W v fun v => backLS W l fun l => k (v :: l)
end
mutual
theorem backS_elim {W : Way} : ∀ {v : AV} {k : AV → Prop}, backS W v k → ∃ v', back W v = some v' ∧ k v'
  | .ptr t none, k, h => by simp only [backS] at h; exact ⟨_, by simp only [back], h⟩
  | .ptr t (some r), k, h => by
    simp only [backS] at h
    split at h
    · rename_i hd; exact ⟨_, by simp only [back, hd], h⟩
    · rename_i hd
      split at h
      · rename_i hz; exact ⟨_, by simp only [back, hd, if_pos (Nat.eq_of_beq_eq_true hz)], h⟩
      · exact h.elim
    · rename_i hd
      split at h
      · rename_i hz; exact ⟨_, by simp only [back, hd, if_pos (Nat.eq_of_beq_eq_true hz)], h⟩
      · exact h.elim
    · exact h.elim
  | .slice t none n z, k, h => by simp only [backS] at h; exact ⟨_, by simp only [back], h⟩
  | .slice t (some r) n z, k, h => by
    simp only [backS] at h
    split at h
    · rename_i hd; exact ⟨_, by simp only [back, hd], h⟩
    · rename_i hd
      split at h
      · rename_i hz; exact ⟨_, by simp only [back, hd, if_pos (Nat.eq_of_beq_eq_true hz)], h⟩
      · exact h.elim
    · rename_i hd
      split at h
      · rename_i hc
        simp only [Bool.and_eq_true] at hc
        obtain ⟨h1, h2⟩ := need_elim h
        exact ⟨_, by simp only [back, hd]; rw [if_pos ⟨Nat.eq_of_beq_eq_true hc.1.1, Nat.eq_of_beq_eq_true hc.1.2, Nat.eq_of_beq_eq_true hc.2, h1⟩], h2⟩
      · exact h.elim
    · exact h.elim
  | .agg l, k, h => by
    simp only [backS] at h
    obtain ⟨l', hl, hk⟩ := backLS_elim (k := fun l => k (.agg l)) h
    exact ⟨_, by simp only [back, hl, Option.map_some], hk⟩
  | .tup l, k, h => by
    simp only [backS] at h
    obtain ⟨l', hl, hk⟩ := backLS_elim (k := fun l => k (.tup l)) h
    exact ⟨_, by simp only [back, hl, Option.map_some], hk⟩
  | .func f a b, k, h => by
    simp only [backS] at h
    obtain ⟨a', ha, h⟩ := backLS_elim (k := fun a => backLS W b fun b => k (.func f a b)) h
    obtain ⟨b', hb, hk⟩ := backLS_elim (k := fun b => k (.func f a' b)) h
    exact ⟨_, by simp only [back, ha, hb], hk⟩
  | .bool t b, k, h => by simp only [backS] at h; exact ⟨_, by simp only [back], h⟩
  | .int t kd n, k, h => by simp only [backS] at h; exact ⟨_, by simp only [back], h⟩
  | .str t s, k, h => by simp only [backS] at h; exact ⟨_, by simp only [back], h⟩
  | .vec t l, k, h => by simp only [backS] at h; exact ⟨_, by simp only [back], h⟩
  | .eptr t l e o, k, h => by simp only [backS] at h; exact ⟨_, by simp only [back], h⟩
  | .map r, k, h => by simp only [backS] at h; exact ⟨_, by simp only [back], h⟩
  | .nilFunc, k, h => by simp only [backS] at h; exact ⟨_, by simp only [back], h⟩
  | .nilIface, k, h => by simp only [backS] at h; exact ⟨_, by simp only [back], h⟩
theorem backLS_elim {W : Way} : ∀ {v : List AV} {k : List AV → Prop}, backLS W v k → ∃ v', backL W v = some v' ∧ k v'
  | [], k, h => by simp only [backLS] at h; exact ⟨_, by simp only [backL], h⟩
  | x :: l, k, h => by
    simp only [backLS] at h
    obtain ⟨x', hx, h⟩ := backS_elim (k := fun v => backLS W l fun l => k (v :: l)) h
    obtain ⟨l', hl, hk⟩ := backLS_elim (k := fun l => k (x' :: l)) h
    exact ⟨_, by simp only [backL, hx, hl], hk⟩
end
def backOS (W : Way) (o : Option AObj) (k : AObj → Prop) : Prop := match o with
  | none => k .dead
  | some .dead => k .dead
  | some (.cells cs e ro) => backLS W cs fun cs' => k (.cells cs' e ro)
  | some (.vec t l e ro) => k (.vec t l e ro)
  | some (.fro _ _ _) => False
theorem backOS_elim {W : Way} {o : Option AObj} {k : AObj → Prop} (h : backOS W o k) : ∃ o', backO W o = some o' ∧ k o' := by
  unfold backOS at h
  split at h
  · exact ⟨_, rfl, h⟩
  · exact ⟨_, rfl, h⟩
  · obtain ⟨c, hc, hk⟩ := backLS_elim h; exact ⟨_, by simp only [backO, hc, Option.map_some], hk⟩
  · exact ⟨_, rfl, h⟩
  · exact h.elim
def backNewS (W : Way) (o : Option AObj) (k : AObj → Prop) : Prop := match o with
  | some (.cells cs e false) => backLS W cs fun cs' => k (.cells cs' e false)
  | some (.vec t l e false) => k (.vec t l e false)
  | some (.cells _ _ true) => False
  | some (.vec _ _ _ true) => False
  | some (.fro _ _ _) => False
  | _ => k .dead
theorem backNewS_elim {W : Way} {o : Option AObj} {k : AObj → Prop} (h : backNewS W o k) : ∃ o', backNew W o = some o' ∧ k o' := by
  unfold backNewS at h
  split at h
  · obtain ⟨c, hc, hk⟩ := backLS_elim h; exact ⟨_, by simp only [backNew, hc, Option.map_some], hk⟩
  · exact ⟨_, rfl, h⟩
  · exact h.elim
  · exact h.elim
  · exact h.elim
  · rename_i h1 h2 h3 h4 h5
    refine ⟨.dead, ?_, h⟩
    unfold backNew
    split
    · rename_i cs e; exact absurd rfl (h1 cs e)
    · rename_i t l e; exact absurd rfl (h2 t l e)
    · rename_i cs e; exact absurd rfl (h3 cs e)
    · rename_i t l e; exact absurd rfl (h4 t l e)
    · rename_i t l e; exact absurd rfl (h5 t l e)
    · rfl
def objsRwS (W : Way) (H1 : Heap) : List (Nat × Nat) → (List (Nat × AObj) → Prop) → Prop
  | [], k => k []
  | (g, i) :: l, k => backOS W (H1.get i) fun o => objsRwS W H1 l fun os => k ((g, o) :: os)
theorem objsRwS_elim {W : Way} {H1 : Heap} : ∀ {l : List (Nat × Nat)} {k : List (Nat × AObj) → Prop}, objsRwS W H1 l k → ∃ L, objsRw W H1 l = some L ∧ k L
  | [], k, h => ⟨[], rfl, h⟩
  | (g, i) :: l, k, h => by
    simp only [objsRwS] at h
    obtain ⟨o, ho, h⟩ := backOS_elim h
    obtain ⟨os, hos, h⟩ := objsRwS_elim h
    exact ⟨_, by simp only [objsRw, ho, hos], h⟩
def objsNewS (W : Way) (H1 : Heap) : List Nat → (List AObj → Prop) → Prop
  | [], k => k []
  | i :: l, k => match roNil W i with
    | true => backOS W (H1.get i) fun o => objsNewS W H1 l fun os => k (o :: os)
    | false => backNewS W (H1.get i) fun o => objsNewS W H1 l fun os => k (o :: os)
theorem objsNewS_elim {W : Way} {H1 : Heap} : ∀ {l : List Nat} {k : List AObj → Prop}, objsNewS W H1 l k → ∃ L, objsNew W H1 l = some L ∧ k L
  | [], k, h => ⟨[], rfl, h⟩
  | i :: l, k, h => by
    simp only [objsNewS] at h
    split at h
    · rename_i hr
      obtain ⟨o, ho, h⟩ := backOS_elim h
      obtain ⟨os, hos, h⟩ := objsNewS_elim h
      exact ⟨_, by simp only [objsNew, hr, cond_true, ho, hos], h⟩
    · rename_i hr
      obtain ⟨o, ho, h⟩ := backNewS_elim h
      obtain ⟨os, hos, h⟩ := objsNewS_elim h
      exact ⟨_, by simp only [objsNew, hr, cond_false, ho, hos], h⟩
def backHS (D : Dom) (ρ : Rho) (H H1 : Heap) (k : Heap → Prop) : Prop :=
  objsRwS (wayOf D ρ H H1) H1 (rwRows ρ D.rows 0) fun L => objsNewS (wayOf D ρ H H1) H1 (newRows ρ D.rows.length H1.n) fun NL => k (pushes (setsL H L) NL)
theorem backHS_elim {D : Dom} {ρ : Rho} {H H1 : Heap} {k : Heap → Prop} (h : backHS D ρ H H1 k) : ∃ H', backH D ρ H H1 = some H' ∧ k H' := by
  unfold backHS at h
  obtain ⟨L, hL, h⟩ := objsRwS_elim h
  obtain ⟨NL, hNL, h⟩ := objsNewS_elim h
  refine ⟨_, ?_, h⟩
  unfold backH
  unfold wayOf at hL hNL
  simp only [hL, hNL]

/-! Contracts. -/
/-- What a call answers, to what it is called with: in one of two forms. -/
structure Con where
  D : Dom
  A : Dom
  B : Dom := ⟨[], .nil⟩
  pre : D.den → Prop := fun _ => True
  spec : D.den → A.den ⊕ B.den
  use : D.den → (A.den → Prop) → (B.den → Prop) → Prop := fun x ka kb => match spec x with
    | .inl y => ka y
    | .inr y => kb y
  ok : ∀ x ka kb, use x ka kb → (match spec x with
    | .inl y => ka y
    | .inr y => kb y) := by intro x ka kb h; exact h
def Dom.one (D : Dom) (y : D.den) : AV := match D.args y with
  | [v] => v
  | _ => .tup []
def Con.val (C : Con) (x : C.D.den) : AV := match C.spec x with
  | .inl y => C.A.one y
  | .inr y => C.B.one y
def Con.heap (C : Con) (x : C.D.den) : Heap := match C.spec x with
  | .inl y => C.A.heap y
  | .inr y => C.B.heap y

/-- What a call does. -/
def CallsTo (P : Program) (f : FuncId) (args : List AV) (H : Heap) (v : AV) (H' : Heap) : Prop :=
  ∀ (β : At) (w : World) (cargs : Array Value), Rel β H w → VsRel H.n β args cargs.toList →
    Calls P f cargs w fun e w' => ∃ β' c, e = .returned c ∧ Rel β' H' w' ∧ Le β H w β' H' w' ∧ VRel H'.n β' v c
def ConOk (P : Program) (f : FuncId) (C : Con) : Prop := ∀ x, C.pre x → CallsTo P f (C.D.args x) (C.D.heap x) (C.val x) (C.heap x)

abbrev Book := FuncId → List AV → Option Con
def BookOk (P : Program) (T : Book) : Prop := ∀ f args C, T f args = some C → ConOk P f C
def noDead (D : Dom) : Bool := D.rows.all fun r => !r.dead?
open Classical in
/-- The calls of a book. -/
noncomputable def Book.cl (T : Book) : Caller := fun f args H => match T f args with
  | none => none
  | some C => match C.D.mat args H [] with
    | none => none
    | some (x, ρ) => if C.pre x ∧ noDead C.D = true then
        match back (wayOf C.D ρ H (C.heap x)) (C.val x), backH C.D ρ H (C.heap x) with
        | some v, some H' => some (v, H')
        | _, _ => none
      else none
/-- The same, told. -/
def Book.S (T : Book) : Handler := fun f args H k => match T f args with
  | none => False
  | some C => match noDead C.D with
    | true => C.D.matS args H [] fun x ρ => C.pre x ∧ (C.use x
        (fun y => forceH (C.A.heap y) fun H1 => backS (wayOf C.D ρ H H1) (C.A.one y) fun v => backHS C.D ρ H H1 fun H' => k v H')
        (fun y => forceH (C.B.heap y) fun H1 => backS (wayOf C.D ρ H H1) (C.B.one y) fun v => backHS C.D ρ H H1 fun H' => k v H'))
    | false => False

theorem Book.cls (T : Book) : ClS T.S T.cl := by
  intro f args H k h
  unfold Book.S at h
  unfold Book.cl
  split at h
  · exact h.elim
  · rename_i C hC
    split at h
    · rename_i hnd
      obtain ⟨x, ρ, hm, h⟩ := Dom.matS_elim h
      obtain ⟨hp, h⟩ := h
      have h := C.ok _ _ _ h
      simp only [hm, if_pos (And.intro hp hnd)]
      unfold Con.val Con.heap
      split at h
      · rename_i y hy
        obtain ⟨v, hv, h⟩ := backS_elim (forceH_elim h)
        obtain ⟨H', hH, h⟩ := backHS_elim h
        simp only [hy, hv, hH]
        exact ⟨v, H', rfl, h⟩
      · rename_i y hy
        obtain ⟨v, hv, h⟩ := backS_elim (forceH_elim h)
        obtain ⟨H', hH, h⟩ := backHS_elim h
        simp only [hy, hv, hH]
        exact ⟨v, H', rfl, h⟩
    · exact h.elim

theorem hlt_of {H : Heap} {β : At} {w : World} (hR : Rel β H w) {D : Dom} {x : D.den} {ρ : Rho} {B : Nat → Option Base} {cs : List Value} (hc : Cast D x H β w ρ B cs) : ∀ i r g, D.rows[i]? = some r → r.rw = true → Src.row? (ρ.find i) = some g → g < H.n := by
  intro i r g hr hrw hs
  obtain ⟨s, bs, hs', _, _, _, hm⟩ := hc.row i r hr (live_of_rw hrw)
  rw [hs'] at hs
  rcases hm hrw with ⟨h, _⟩ | ⟨g', c, e, hg', _, hrow⟩
  · subst h; cases hs
  · rw [hs] at hg'; cases hg'; exact hR.row_lt hrow
theorem Book.callOk {P : Program} {T : Book} (hT : BookOk P T) : CallOk P T.cl := by
  intro f args H v H' h β w cargs hR ha
  unfold Book.cl at h
  split at h
  · cases h
  · rename_i C hC
    split at h
    · cases h
    · rename_i x ρ hm
      split at h
      · rename_i hp
        split at h
        · rename_i v0 H0 hv hH
          cases h
          obtain ⟨B, hc, _, _⟩ := cast_sound hR hm ha (B0 := fun _ => none) (fun g s hs => by simp [Rho.find] at hs)
          have hnd : ∀ r, r ∈ C.D.rows → r.dead? = false := by
            have := hp.2
            unfold noDead at this
            intro r hr
            simpa using List.all_eq_true.1 this r hr
          refine (hT f args C hC x hp.1 (C.D.at_ β B) w cargs hc.rel (by rw [Dom.heap_n]; exact hc.args)).mono ?_
          rintro e w' ⟨β1, c, rfl, hR1, hLe, hv1⟩
          have hrows := backH_rows hR.fresh hc (hlt_of hR hc) hH
          obtain ⟨q1, q2, q3⟩ := frame_sound hR hc hnd hR1 hLe hrows
          exact ⟨_, c, rfl, q1, q2, q3 _ _ _ hv hv1⟩
        · cases h
      · cases h
theorem Book.later (T : Book) : ClLater T.cl := by
  intro f args H v H' h
  unfold Book.cl at h
  split at h
  · cases h
  · split at h
    · cases h
    · split at h
      · split at h
        · rename_i hH
          cases h
          unfold backH at hH
          split at hH
          · rename_i L NL hL hNL
            cases hH
            have h1 : Later H (setsL H L) := by
              clear hL
              induction L with
              | nil => exact Later.refl _
              | cons p L ih => exact ih.trans (Later.set _ _ _)
            have h2 : ∀ (NL : List AObj) (H0 : Heap), Later H0 (pushes H0 NL) := by
              intro NL
              induction NL with
              | nil => intro H0; exact Later.refl _
              | cons o NL ih => intro H0; exact (Later.push _ _).trans (ih _)
            exact h1.trans (h2 _ _)
          · cases hH
        · cases h
      · cases h
end Go.Vx
