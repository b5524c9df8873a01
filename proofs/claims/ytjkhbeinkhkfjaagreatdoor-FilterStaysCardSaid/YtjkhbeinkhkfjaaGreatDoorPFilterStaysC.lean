/- Printed by a program of ours out of our texts: the evaluator, the printed functions, the plain laws. (A help: no statement of the seat is proved here.) -/
import Derived.Test.YtjkhbeinkhkfjaaGreatDoorPFilterStaysB
import Derived.OpenShut
import Derived.ReadAgain
import Derived.Test.YtjkhbeinkhkfjaaGreatDoorChecked
import Derived.KernelRfl
import Derived.Lib.Strings
import Derived.Lib.Slices
import Derived.Lib.Walk
import Derived.Lib.Bytealg
import Derived.Laws.AppendOwn
import Derived.Below
import Derived.Shelf.Strings.FieldsFuncGrows
import Derived.Shelf.Strings.IndexAnyAll
import Derived.Shelf.Strings.SlTrimAscii
set_option linter.unusedVariables false
set_option linter.unusedSimpArgs false
section
namespace Go.Vx
def zg2 (v : AV) (l : List AV) (k : List AV -> Prop) : Prop := match l with
 | u :: l => match zdi v u with
  | true => k l
  | false => False
 | [] => False
def zg3 (g e z o:Nat) (l : List AV) (ρ : Rho) (k : List AV -> Rho -> Prop) : Prop := match l with
 | .ptr _ (some r) :: l => match Nat.beq r.e e && Nat.beq r.z z && Nat.beq r.o o with
  | true => match ρ.find g with
   | none => k l ((g, .whole r.g) :: ρ)
   | some (.whole g') => match Nat.beq g' r.g with
    | true => k l ρ
    | false => False
   | _ => False
  | false => False
 | _ => False
def zg4 (H : Heap) (g z:Nat) (l : List AV) (ρ : Rho) (k : List AV -> Rho -> Prop) : Prop := match l with
 | .slice _ none _ _ :: l => match ρ.find g with
   | none => k l ((g, .nil) :: ρ)
   | some .nil => k l ρ
   | _ => False
 | .slice t (some r) n z' :: l => match Nat.beq z' z && Nat.beq r.z z && Nat.beq r.o 0 with
  | true => match ρ.find g with
   | none => k l ((g, .win r.g r.e n z) :: ρ)
   | some (.whole g') => match Nat.beq g' r.g with
    | true => must (zdj H r.g z) fun m => need true (r.e = 0 ∧ n = m) (k l ρ)
    | false => False
   | some (.win g' e' n' z0) => match Nat.beq g' r.g && Nat.beq z0 z with
    | true => need true (e' = r.e ∧ n' = n) (k l ρ)
    | false => False
   | _ => False
  | false => False
 | .vec t x :: l => match Nat.beq t.z z with
  | true => match ρ.find g with
   | none => k l ((g, .inl t x) :: ρ)
   | _ => False
  | false => False
 | _ => False
def zg5 (H : Heap) (t : Ty) (l : List AV) (k : List t.den -> List AV -> Prop) : Prop := match l with
 | .slice _ (some r) n z :: l => match H.get r.g with
  | some (.fro t' L _) => if h : t' = t then (match Nat.beq r.z t'.z && Nat.beq r.o 0 && Nat.beq z t'.z with
   | true => need true (r.e + n <= L.length) (k (h ▸ (L.drop r.e).take n) l)
   | false => False) else False
  | _ => False
 | l => z90 t l k
def zg6 (g z:Nat) (l : List AV) (ρ : Rho) (k : Nat × Nat -> List AV -> Rho -> Prop) : Prop := match l with
 | .slice _ (some r) n z' :: l => match Nat.beq z' z && Nat.beq r.z z && Nat.beq r.o 0 with
  | true => match ρ.find g with
   | none => k (r.e, n) l ((g, .whole r.g) :: ρ)
   | some (.whole g') => match Nat.beq g' r.g with
    | true => k (r.e, n) l ρ
    | false => False
   | _ => False
  | false => False
 | _ => False
def zg7 (H : Heap) : (p : VP) -> List AV -> Rho -> (p.den -> List AV -> Rho -> Prop) -> Prop
 | .bool, l, ρ, k => z8w l fun x l => k x l ρ
 | .int kd, l, ρ, k => z8x kd l fun x l => k x l ρ
 | .num kd, l, ρ, k => z8x kd l fun x l => k x l ρ
 | .byte, l, ρ, k => z8y l fun x l => k x l ρ
 | .str, l, ρ, k => z8z l fun x l => k x l ρ
 | .vec t, l, ρ, k => zg5 H t l fun x l => k x l ρ
 | .lit v, l, ρ, k => zg2 v l fun l => k () l ρ
 | .ptr g e z o, l, ρ, k => zg3 g e z o l ρ fun l ρ => k () l ρ
 | .sl g z, l, ρ, k => zg4 H g z l ρ fun l ρ => k () l ρ
 | .part g z, l, ρ, k => zg6 g z l ρ k
 | .nil, l, ρ, k => k () l ρ
 | .cat a b, l, ρ, k => zg7 H a l ρ fun x l ρ => zg7 H b l ρ fun y l ρ => k (x, y) l ρ
 | .agg p, l, ρ, k => match l with
  | .agg cs :: l => zg7 H p cs ρ fun x rest ρ => match rest with
   | [] => k x l ρ
   | _ => False
  | _ => False
 | .tup p, l, ρ, k => match l with
  | .tup cs :: l => zg7 H p cs ρ fun x rest ρ => match rest with
   | [] => k x l ρ
   | _ => False
  | _ => False
 | .func f p q, l, ρ, k => match l with
  | .func f' xs ys :: l => if f' = f then zg7 H p xs ρ fun x rest ρ => match rest with
    | [] => zg7 H q ys ρ fun y rest ρ => match rest with
     | [] => k (x, y) l ρ
     | _ => False
    | _ => False
   else False
  | _ => False
def zg8 (H : Heap) (t : Ty) (ro:Bool) (s : Src) (k : List t.den -> Prop) : Prop := match s with
 | .whole g => match H.get g with
  | some (.vec t' L _ ro') => if h : t' = t then (match ro || !ro' with
   | true => k (h ▸ L)
   | false => False) else False
  | _ => False
 | .win g e n z => match Nat.beq z t.z && !(Nat.beq z 0) with
  | true => match H.get g with
   | some (.vec t' L _ ro') => if h : t' = t then
     (match ro with
      | true => need true (e + n <= L.length) (k (h ▸ (L.drop e).take n))
      | false => match ro' with
       | false => need true (e = 0 ∧ n = L.length) (k (h ▸ L))
       | true => False) else False
   | some (.fro t' L _) => if h : t' = t then
     (match ro with
      | true => need true (e + n <= L.length) (k (h ▸ (L.drop e).take n))
      | false => False) else False
   | some (.cells cs _ ro') => match ro with
    | true => match Nat.ble (e * z + n * z) cs.length with
     | true => z96 t ((cs.drop (e * z)).take (n * z)) k
     | false => False
    | false => match Nat.beq e 0 && Nat.beq (n * z) cs.length && !ro' with
     | true => z96 t cs k
     | false => False
   | _ => False
  | false => False
 | .nil => k []
 | .inl t' l => if h : t' = t then (match ro && !(Nat.beq t.z 0) with
  | true => k (h ▸ l)
  | false => False) else False
def zg9 (H : Heap) : (r : RP) -> Option Src -> Rho -> (r.den -> Rho -> Prop) -> Prop
 | .dead, _, ρ, k => k () ρ
 | .vec t _ ro, s, ρ, k => match s with
  | some s => zg8 H t ro s fun l => k l ρ
  | none => False
 | .cells p _ ro, s, ρ, k => match s with
  | some (.whole g) => match H.get g with
   | some (.cells cs _ ro') => match ro || !ro' with
    | true => zg7 H p cs ρ fun x rest ρ => match rest with
     | [] => k x ρ
     | _ => False
    | false => False
   | _ => False
  | _ => False
def zga (H : Heap) : (rs : List RP) -> Nat -> Rho -> (rowsDen rs -> Rho -> Prop) -> Prop
 | [], _, ρ, k => k () ρ
 | r :: rs, i, ρ, k => zg9 H r (ρ.find i) ρ fun x ρ => zga H rs (i + 1) ρ fun xs ρ => k (x, xs) ρ
def Dom.matS (D : Dom) (vs : List AV) (H : Heap) (ρ0 : Rho) (k : D.den -> Rho -> Prop) : Prop :=
 zg7 H D.vals vs ρ0 fun xv rest ρ1 => match rest with
  | [] => zga H D.rows 0 ρ1 fun xr ρ => match zdv D.rows.length ρ && zdt (zdr ρ D.rows 0) && zdu H ρ D.rows 0 && zdx D with
   | true => k (xr, xv) ρ
   | false => False
  | _ => False
theorem zgb {H : Heap} : (p : VP) -> {l : List AV} -> {ρ : Rho} -> {k : p.den -> List AV -> Rho -> Prop} -> zg7 H p l ρ k -> ∃ x l' ρ', matV H p l ρ = some (x, l', ρ') ∧ k x l' ρ'
 | .bool, l, ρ, k, h => by
  simp only [zg7] at h
  obtain ⟨x, l', hd, hk⟩ := z91 .bool (k := fun x l => k x l ρ) h
  simp only [dec] at hd
  exact ⟨x, l', ρ, by simp only [matV, hd, Option.map_some], hk⟩
 | .int kd, l, ρ, k, h => by
  simp only [zg7] at h
  obtain ⟨x, l', hd, hk⟩ := z91 (.int kd) (k := fun x l => k x l ρ) h
  simp only [dec] at hd
  exact ⟨x, l', ρ, by simp only [matV, hd, Option.map_some], hk⟩
 | .num kd, l, ρ, k, h => by
  simp only [zg7] at h
  obtain ⟨x, l', hd, hk⟩ := z91 (.int kd) (k := fun x l => k x l ρ) h
  simp only [dec] at hd
  exact ⟨x, l', ρ, by simp only [matV, hd, Option.map_some], hk⟩
 | .byte, l, ρ, k, h => by
  simp only [zg7] at h
  obtain ⟨x, l', hd, hk⟩ := z91 .byte (k := fun x l => k x l ρ) h
  simp only [dec] at hd
  exact ⟨x, l', ρ, by simp only [matV, hd, Option.map_some], hk⟩
 | .str, l, ρ, k, h => by
  simp only [zg7] at h
  obtain ⟨x, l', hd, hk⟩ := z91 .str (k := fun x l => k x l ρ) h
  simp only [dec] at hd
  exact ⟨x, l', ρ, by simp only [matV, hd, Option.map_some], hk⟩
 | .vec t, l, ρ, k, h => by
  simp only [zg7] at h
  unfold zg5 at h
  split at h
  ·split at h
   ·rename_i hg
    split at h
    ·rename_i ht
     split at h
     ·rename_i hb
      simp only [Bool.and_eq_true] at hb
      obtain ⟨h1, h2⟩ := z8q h
      exact ⟨_, _, ρ, by simp only [matV, zdn, hg, dif_pos ht]; rw [if_pos ⟨Nat.eq_of_beq_eq_true hb.1.1, Nat.eq_of_beq_eq_true hb.1.2, Nat.eq_of_beq_eq_true hb.2, h1⟩]; rfl, h2⟩
     ·exact h.elim
    ·exact h.elim
   ·exact h.elim
  ·rename_i hn
   obtain ⟨x, l', hd, hk⟩ := z91 (.sl t) (k := fun x l => k x l ρ) h
   simp only [dec] at hd
   have e : zdn H t l = z0f t l := by
    unfold zdn
    split
    ·rename_i b r n z l'; exact absurd rfl (hn b r n z l')
    ·rfl
   exact ⟨x, l', ρ, by simp only [matV, e, hd, Option.map_some], hk⟩
 | .lit v, l, ρ, k, h => by
  simp only [zg7] at h
  unfold zg2 at h
  split at h
  ·split at h
   ·rename_i hl; exact ⟨(), _, ρ, by simp only [matV, zdk, if_pos hl, Option.map_some], h⟩
   ·exact h.elim
  ·exact h.elim
 | .ptr g e z o, l, ρ, k, h => by
  simp only [zg7] at h
  unfold zg3 at h
  split at h
  ·split at h
   ·rename_i hc
    simp only [Bool.and_eq_true] at hc
    have hc' := And.intro (Nat.eq_of_beq_eq_true hc.1.1) (And.intro (Nat.eq_of_beq_eq_true hc.1.2) (Nat.eq_of_beq_eq_true hc.2))
    split at h
    ·rename_i hf; exact ⟨(), _, _, by simp only [matV, zdl, if_pos hc', hf, Option.map_some], h⟩
    ·rename_i g' hf
     split at h
     ·rename_i hg; exact ⟨(), _, _, by simp only [matV, zdl, if_pos hc', hf, if_pos (Nat.eq_of_beq_eq_true hg), Option.map_some], h⟩
     ·exact h.elim
    ·exact h.elim
   ·exact h.elim
  ·exact h.elim
 | .sl g z, l, ρ, k, h => by
  simp only [zg7] at h
  unfold zg4 at h
  split at h
  ·split at h
   ·rename_i hf; exact ⟨(), _, _, by simp only [matV, zdm, hf, Option.map_some], h⟩
   ·rename_i hf; exact ⟨(), _, _, by simp only [matV, zdm, hf, Option.map_some], h⟩
   ·exact h.elim
  ·split at h
   ·rename_i hc
    simp only [Bool.and_eq_true] at hc
    have hc' := And.intro (Nat.eq_of_beq_eq_true hc.1.1) (And.intro (Nat.eq_of_beq_eq_true hc.1.2) (Nat.eq_of_beq_eq_true hc.2))
    split at h
    ·rename_i hf; exact ⟨(), _, _, by simp only [matV, zdm, if_pos hc', hf, Option.map_some], h⟩
    ·rename_i g' hf
     split at h
     ·rename_i hg
      obtain ⟨m, hm, h⟩ := z8s h
      obtain ⟨h1, h2⟩ := z8q h
      exact ⟨(), _, _, by simp only [matV, zdm, if_pos hc', hf]; rw [if_pos ⟨Nat.eq_of_beq_eq_true hg, h1.1, by rw [hm, h1.2]⟩]; rfl, h2⟩
     ·exact h.elim
    ·rename_i g' e' n' z0 hf
     split at h
     ·rename_i hg
      simp only [Bool.and_eq_true] at hg
      obtain ⟨h1, h2⟩ := z8q h
      exact ⟨(), _, _, by simp only [matV, zdm, if_pos hc', hf]; rw [if_pos ⟨Nat.eq_of_beq_eq_true hg.1, h1.1, h1.2, Nat.eq_of_beq_eq_true hg.2⟩]; rfl, h2⟩
     ·exact h.elim
    ·exact h.elim
   ·exact h.elim
  ·split at h
   ·rename_i hz
    split at h
    ·rename_i hf; exact ⟨(), _, _, by simp only [matV, zdm, if_pos (Nat.eq_of_beq_eq_true hz), hf, Option.map_some], h⟩
    ·exact h.elim
   ·exact h.elim
  ·exact h.elim
 | .part g z, l, ρ, k, h => by
  simp only [zg7] at h
  unfold zg6 at h
  split at h
  ·split at h
   ·rename_i hc
    simp only [Bool.and_eq_true] at hc
    have hc' := And.intro (Nat.eq_of_beq_eq_true hc.1.1) (And.intro (Nat.eq_of_beq_eq_true hc.1.2) (Nat.eq_of_beq_eq_true hc.2))
    split at h
    ·rename_i hf; exact ⟨_, _, _, by simp only [matV, zdo, if_pos hc', hf], h⟩
    ·rename_i g' hf
     split at h
     ·rename_i hg; exact ⟨_, _, _, by simp only [matV, zdo, if_pos hc', hf, if_pos (Nat.eq_of_beq_eq_true hg)], h⟩
     ·exact h.elim
    ·exact h.elim
   ·exact h.elim
  ·exact h.elim
 | .nil, l, ρ, k, h => ⟨(), l, ρ, rfl, h⟩
 | .cat a b, l, ρ, k, h => by
  simp only [zg7] at h
  obtain ⟨x, l1, ρ1, h1, h⟩ := zgb a h
  obtain ⟨y, l2, ρ2, h2, h⟩ := zgb b h
  exact ⟨_, _, _, by simp only [matV, h1, h2], h⟩
 | .agg p, l, ρ, k, h => by
  simp only [zg7] at h
  split at h
  ·obtain ⟨x, l1, ρ1, h1, h⟩ := zgb p h
   split at h
   ·exact ⟨_, _, _, by simp only [matV, h1], h⟩
   ·exact h.elim
  ·exact h.elim
 | .tup p, l, ρ, k, h => by
  simp only [zg7] at h
  split at h
  ·obtain ⟨x, l1, ρ1, h1, h⟩ := zgb p h
   split at h
   ·exact ⟨_, _, _, by simp only [matV, h1], h⟩
   ·exact h.elim
  ·exact h.elim
 | .func f p q, l, ρ, k, h => by
  simp only [zg7] at h
  split at h
  ·split at h
   ·rename_i hf
    obtain ⟨x, l1, ρ1, h1, h⟩ := zgb p h
    split at h
    ·obtain ⟨y, l2, ρ2, h2, h⟩ := zgb q h
     split at h
     ·exact ⟨_, _, _, by simp only [matV, if_pos hf, h1, h2], h⟩
     ·exact h.elim
    ·exact h.elim
   ·exact h.elim
  ·exact h.elim
theorem zgc {H : Heap} {t : Ty} {ro : Bool} {s : Src} {k : List t.den -> Prop} (h : zg8 H t ro s k) : ∃ l, zdp H t ro s = some l ∧ k l := by
 unfold zg8 at h
 split at h
 ·split at h
  ·rename_i hg
   split at h
   ·rename_i ht
    split at h
    ·rename_i hr
     refine ⟨_, ?_, h⟩
     simp only [zdp, hg, dif_pos ht]
     rw [if_pos (by intro e; rw [e] at hr; simpa using hr)]
    ·exact h.elim
   ·exact h.elim
  ·exact h.elim
 ·split at h
  ·rename_i hz
   have hz' : ∀ {z : Nat}, (Nat.beq z t.z && !(Nat.beq z 0)) = true -> z = t.z ∧ z ≠ 0 := by
    intro z hz
    simp only [Bool.and_eq_true, Bool.not_eq_true'] at hz
    exact ⟨Nat.eq_of_beq_eq_true hz.1, Nat.ne_of_beq_eq_false hz.2⟩
   have hz := hz' hz
   split at h
   ·rename_i hg
    split at h
    ·rename_i ht
     split at h
     ·obtain ⟨h1, h2⟩ := z8q h
      exact ⟨_, by simp only [zdp, if_pos hz, hg, dif_pos ht, if_pos h1], h2⟩
     ·split at h
      ·obtain ⟨h1, h2⟩ := z8q h
       exact ⟨_, by simp only [zdp, if_pos hz, hg, dif_pos ht]; rw [if_pos ⟨h1.1, h1.2, trivial⟩], h2⟩
      ·exact h.elim
    ·exact h.elim
   ·rename_i hg
    split at h
    ·rename_i ht
     split at h
     ·obtain ⟨h1, h2⟩ := z8q h
      exact ⟨_, by simp only [zdp, if_pos hz, hg, dif_pos ht, if_pos h1], h2⟩
     ·exact h.elim
    ·exact h.elim
   ·rename_i hg
    split at h
    ·split at h
     ·rename_i hb
      obtain ⟨l, hl, hk⟩ := z97 h
      exact ⟨l, by simp only [zdp, if_pos hz, hg, if_pos (Nat.le_of_ble_eq_true hb), hl], hk⟩
     ·exact h.elim
    ·split at h
     ·rename_i hb
      obtain ⟨l, hl, hk⟩ := z97 h
      simp only [Bool.and_eq_true, Bool.not_eq_true'] at hb
      exact ⟨l, by simp only [zdp, if_pos hz, hg]; rw [if_pos ⟨Nat.eq_of_beq_eq_true hb.1.1, Nat.eq_of_beq_eq_true hb.1.2, hb.2⟩, hl], hk⟩
     ·exact h.elim
   ·exact h.elim
  ·exact h.elim
 ·exact ⟨[], rfl, h⟩
 ·split at h
  ·rename_i ht
   split at h
   ·rename_i hc
    simp only [Bool.and_eq_true, Bool.not_eq_true'] at hc
    exact ⟨_, by simp only [zdp, dif_pos ht]; rw [if_pos ⟨hc.1, Nat.ne_of_beq_eq_false hc.2⟩], h⟩
   ·exact h.elim
  ·exact h.elim
theorem zgd {H : Heap} : (r : RP) -> {s : Option Src} -> {ρ : Rho} -> {k : r.den -> Rho -> Prop} -> zg9 H r s ρ k -> ∃ x ρ', matR H r s ρ = some (x, ρ') ∧ k x ρ'
 | .dead, s, ρ, k, h => ⟨(), ρ, rfl, h⟩
 | .vec t e ro, s, ρ, k, h => by
  simp only [zg9] at h
  split at h
  ·obtain ⟨l, hl, hk⟩ := zgc h
   exact ⟨l, ρ, by simp only [matR, hl, Option.map_some], hk⟩
  ·exact h.elim
 | .cells p e ro, s, ρ, k, h => by
  simp only [zg9] at h
  split at h
  ·split at h
   ·rename_i hg
    split at h
    ·rename_i hr
     obtain ⟨x, l1, ρ1, h1, h⟩ := zgb p h
     split at h
     ·refine ⟨_, _, ?_, h⟩
      simp only [matR, hg]
      rw [if_pos (by intro e; rw [e] at hr; simpa using hr), h1]
     ·exact h.elim
    ·exact h.elim
   ·exact h.elim
  ·exact h.elim
theorem zge {H : Heap} : (rs : List RP) -> {i : Nat} -> {ρ : Rho} -> {k : rowsDen rs -> Rho -> Prop} -> zga H rs i ρ k -> ∃ x ρ', zdq H rs i ρ = some (x, ρ') ∧ k x ρ'
 | [], i, ρ, k, h => ⟨(), ρ, rfl, h⟩
 | r :: rs, i, ρ, k, h => by
  simp only [zga] at h
  obtain ⟨x, ρ1, h1, h⟩ := zgd r h
  obtain ⟨xs, ρ2, h2, h⟩ := zge rs h
  exact ⟨_, _, by simp only [zdq, h1, h2], h⟩
theorem Dom.matS_elim {D : Dom} {vs : List AV} {H : Heap} {ρ0 : Rho} {k : D.den -> Rho -> Prop} (h : D.matS vs H ρ0 k) : ∃ x ρ, D.mat vs H ρ0 = some (x, ρ) ∧ k x ρ := by
 unfold Dom.matS at h
 obtain ⟨xv, l1, ρ1, h1, h⟩ := zgb D.vals h
 split at h
 ·obtain ⟨xr, ρ2, h2, h⟩ := zge D.rows h
  split at h
  ·rename_i hc
   simp only [Bool.and_eq_true] at hc
   refine ⟨_, _, ?_, h⟩
   unfold Dom.mat
   simp only [h1, h2]
   rw [if_pos ⟨hc.1.1.1, hc.1.1.2, hc.1.2, hc.2⟩]
  ·exact h.elim
 ·exact h.elim
mutual
def zgf (W : Way) : AV -> (AV -> Prop) -> Prop
 | .ptr t none, k => k (.ptr t none)
 | .ptr t (some r), k => match W.to r.g with
  | some (.row g) => k (.ptr t (some ⟨g, r.e, r.z, r.o⟩))
  | some (.win g e z) => match Nat.beq r.z z with
   | true => k (.ptr t (some ⟨g, e + r.e, r.z, r.o⟩))
   | false => False
  | some (.inl t' l) => match Nat.beq r.z t'.z with
   | true => k (.eptr t' l r.e r.o)
   | false => False
  | none => False
 | .slice t none n z, k => k (.slice t none n z)
 | .slice t (some r) n z, k => match W.to r.g with
  | some (.row g) => k (.slice t (some ⟨g, r.e, r.z, r.o⟩) n z)
  | some (.win g e z') => match Nat.beq r.z z' with
   | true => k (.slice t (some ⟨g, e + r.e, r.z, r.o⟩) n z)
   | false => False
  | some (.inl t' l) => match Nat.beq r.z t'.z && Nat.beq r.o 0 && Nat.beq z t'.z with
   | true => need true (r.e + n <= l.length) (k (.vec t' ((l.drop r.e).take n)))
   | false => False
  | none => False
 | .agg l, k => zgg W l fun l => k (.agg l)
 | .tup l, k => zgg W l fun l => k (.tup l)
 | .func f a b, k => zgg W a fun a => zgg W b fun b => k (.func f a b)
 | v, k => k v
def zgg (W : Way) : List AV -> (List AV -> Prop) -> Prop
 | [], k => k []
 | v :: l, k => zgf W v fun v => zgg W l fun l => k (v :: l)
end
mutual
theorem zgh {W : Way} : ∀ {v : AV} {k : AV -> Prop}, zgf W v k -> ∃ v', back W v = some v' ∧ k v'
 | .ptr t none, k, h => by simp only [zgf] at h; exact ⟨_, by simp only [back], h⟩
 | .ptr t (some r), k, h => by
  simp only [zgf] at h
  split at h
  ·rename_i hd; exact ⟨_, by simp only [back, hd], h⟩
  ·rename_i hd
   split at h
   ·rename_i hz; exact ⟨_, by simp only [back, hd, if_pos (Nat.eq_of_beq_eq_true hz)], h⟩
   ·exact h.elim
  ·rename_i hd
   split at h
   ·rename_i hz; exact ⟨_, by simp only [back, hd, if_pos (Nat.eq_of_beq_eq_true hz)], h⟩
   ·exact h.elim
  ·exact h.elim
 | .slice t none n z, k, h => by simp only [zgf] at h; exact ⟨_, by simp only [back], h⟩
 | .slice t (some r) n z, k, h => by
  simp only [zgf] at h
  split at h
  ·rename_i hd; exact ⟨_, by simp only [back, hd], h⟩
  ·rename_i hd
   split at h
   ·rename_i hz; exact ⟨_, by simp only [back, hd, if_pos (Nat.eq_of_beq_eq_true hz)], h⟩
   ·exact h.elim
  ·rename_i hd
   split at h
   ·rename_i hc
    simp only [Bool.and_eq_true] at hc
    obtain ⟨h1, h2⟩ := z8q h
    exact ⟨_, by simp only [back, hd]; rw [if_pos ⟨Nat.eq_of_beq_eq_true hc.1.1, Nat.eq_of_beq_eq_true hc.1.2, Nat.eq_of_beq_eq_true hc.2, h1⟩], h2⟩
   ·exact h.elim
  ·exact h.elim
 | .agg l, k, h => by
  simp only [zgf] at h
  obtain ⟨l', hl, hk⟩ := zgi (k := fun l => k (.agg l)) h
  exact ⟨_, by simp only [back, hl, Option.map_some], hk⟩
 | .tup l, k, h => by
  simp only [zgf] at h
  obtain ⟨l', hl, hk⟩ := zgi (k := fun l => k (.tup l)) h
  exact ⟨_, by simp only [back, hl, Option.map_some], hk⟩
 | .func f a b, k, h => by
  simp only [zgf] at h
  obtain ⟨a', ha, h⟩ := zgi (k := fun a => zgg W b fun b => k (.func f a b)) h
  obtain ⟨b', hb, hk⟩ := zgi (k := fun b => k (.func f a' b)) h
  exact ⟨_, by simp only [back, ha, hb], hk⟩
 | .bool t b, k, h => by simp only [zgf] at h; exact ⟨_, by simp only [back], h⟩
 | .int t kd n, k, h => by simp only [zgf] at h; exact ⟨_, by simp only [back], h⟩
 | .str t s, k, h => by simp only [zgf] at h; exact ⟨_, by simp only [back], h⟩
 | .vec t l, k, h => by simp only [zgf] at h; exact ⟨_, by simp only [back], h⟩
 | .eptr t l e o, k, h => by simp only [zgf] at h; exact ⟨_, by simp only [back], h⟩
 | .map r, k, h => by simp only [zgf] at h; exact ⟨_, by simp only [back], h⟩
 | .nilFunc, k, h => by simp only [zgf] at h; exact ⟨_, by simp only [back], h⟩
 | .nilIface, k, h => by simp only [zgf] at h; exact ⟨_, by simp only [back], h⟩
theorem zgi {W : Way} : ∀ {v : List AV} {k : List AV -> Prop}, zgg W v k -> ∃ v', zey W v = some v' ∧ k v'
 | [], k, h => by simp only [zgg] at h; exact ⟨_, by simp only [zey], h⟩
 | x :: l, k, h => by
  simp only [zgg] at h
  obtain ⟨x', hx, h⟩ := zgh (k := fun v => zgg W l fun l => k (v :: l)) h
  obtain ⟨l', hl, hk⟩ := zgi (k := fun l => k (x' :: l)) h
  exact ⟨_, by simp only [zey, hx, hl], hk⟩
end
def zgj (W : Way) (o : Option AObj) (k : AObj -> Prop) : Prop := match o with
 | none => k .dead
 | some .dead => k .dead
 | some (.cells cs e ro) => zgg W cs fun cs' => k (.cells cs' e ro)
 | some (.vec t l e ro) => k (.vec t l e ro)
 | some (.fro _ _ _) => False
theorem zgk {W : Way} {o : Option AObj} {k : AObj -> Prop} (h : zgj W o k) : ∃ o', zez W o = some o' ∧ k o' := by
 unfold zgj at h
 split at h
 ·exact ⟨_, rfl, h⟩
 ·exact ⟨_, rfl, h⟩
 ·obtain ⟨c, hc, hk⟩ := zgi h; exact ⟨_, by simp only [zez, hc, Option.map_some], hk⟩
 ·exact ⟨_, rfl, h⟩
 ·exact h.elim
def zgl (W : Way) (o : Option AObj) (k : AObj -> Prop) : Prop := match o with
 | some (.cells cs e false) => zgg W cs fun cs' => k (.cells cs' e false)
 | some (.vec t l e false) => k (.vec t l e false)
 | some (.cells _ _ true) => False
 | some (.vec _ _ _ true) => False
 | some (.fro _ _ _) => False
 | _ => k .dead
theorem zgm {W : Way} {o : Option AObj} {k : AObj -> Prop} (h : zgl W o k) : ∃ o', zf0 W o = some o' ∧ k o' := by
 unfold zgl at h
 split at h
 ·obtain ⟨c, hc, hk⟩ := zgi h; exact ⟨_, by simp only [zf0, hc, Option.map_some], hk⟩
 ·exact ⟨_, rfl, h⟩
 ·exact h.elim
 ·exact h.elim
 ·exact h.elim
 ·rename_i h1 h2 h3 h4 h5
  refine ⟨.dead, ?_, h⟩
  unfold zf0
  split
  ·rename_i cs e; exact absurd rfl (h1 cs e)
  ·rename_i t l e; exact absurd rfl (h2 t l e)
  ·rename_i cs e; exact absurd rfl (h3 cs e)
  ·rename_i t l e; exact absurd rfl (h4 t l e)
  ·rename_i t l e; exact absurd rfl (h5 t l e)
  ·rfl
def zgn (W : Way) (H1 : Heap) : List (Nat × Nat) -> (List (Nat × AObj) -> Prop) -> Prop
 | [], k => k []
 | (g, i) :: l, k => zgj W (H1.get i) fun o => zgn W H1 l fun os => k ((g, o) :: os)
theorem zgo {W : Way} {H1 : Heap} : ∀ {l : List (Nat × Nat)} {k : List (Nat × AObj) -> Prop}, zgn W H1 l k -> ∃ L, zf2 W H1 l = some L ∧ k L
 | [], k, h => ⟨[], rfl, h⟩
 | (g, i) :: l, k, h => by
  simp only [zgn] at h
  obtain ⟨o, ho, h⟩ := zgk h
  obtain ⟨os, hos, h⟩ := zgo h
  exact ⟨_, by simp only [zf2, ho, hos], h⟩
def zgp (W : Way) (H1 : Heap) : List Nat -> (List AObj -> Prop) -> Prop
 | [], k => k []
 | i :: l, k => match zf3 W i with
  | true => zgj W (H1.get i) fun o => zgp W H1 l fun os => k (o :: os)
  | false => zgl W (H1.get i) fun o => zgp W H1 l fun os => k (o :: os)
theorem zgq {W : Way} {H1 : Heap} : ∀ {l : List Nat} {k : List AObj -> Prop}, zgp W H1 l k -> ∃ L, zf4 W H1 l = some L ∧ k L
 | [], k, h => ⟨[], rfl, h⟩
 | i :: l, k, h => by
  simp only [zgp] at h
  split at h
  ·rename_i hr
   obtain ⟨o, ho, h⟩ := zgk h
   obtain ⟨os, hos, h⟩ := zgq h
   exact ⟨_, by simp only [zf4, hr, cond_true, ho, hos], h⟩
  ·rename_i hr
   obtain ⟨o, ho, h⟩ := zgm h
   obtain ⟨os, hos, h⟩ := zgq h
   exact ⟨_, by simp only [zf4, hr, cond_false, ho, hos], h⟩
def zgr (D : Dom) (ρ : Rho) (H H1 : Heap) (k : Heap -> Prop) : Prop :=
 zgn (zf6 D ρ H H1) H1 (zex ρ D.rows 0) fun L => zgp (zf6 D ρ H H1) H1 (zew ρ D.rows.length H1.n) fun NL => k (zd7 (zf1 H L) NL)
theorem zgs {D : Dom} {ρ : Rho} {H H1 : Heap} {k : Heap -> Prop} (h : zgr D ρ H H1 k) : ∃ H', zf5 D ρ H H1 = some H' ∧ k H' := by
 unfold zgr at h
 obtain ⟨L, hL, h⟩ := zgo h
 obtain ⟨NL, hNL, h⟩ := zgq h
 refine ⟨_, ?_, h⟩
 unfold zf5
 unfold zf6 at hL hNL
 simp only [hL, hNL]
structure Con where
 D : Dom
 A : Dom
 B : Dom := ⟨[], .nil⟩
 pre : D.den -> Prop := fun _ => True
 spec : D.den -> A.den ⊕ B.den
 use : D.den -> (A.den -> Prop) -> (B.den -> Prop) -> Prop := fun x ka kb => match spec x with
  | .inl y => ka y
  | .inr y => kb y
 ok : ∀ x ka kb, use x ka kb -> (match spec x with
  | .inl y => ka y
  | .inr y => kb y) := by intro x ka kb h; exact h
def Dom.one (D : Dom) (y : D.den) : AV := match D.args y with
 | [v] => v
 | _ => .tup []
def Con.val (C : Con) (x : C.D.den) : AV := match C.spec x with
 | .inl y => C.A.one y
 | .inr y => C.B.one y
def Con.heap (C : Con) (x : C.D.den) : Heap := match C.spec x with
 | .inl y => C.A.heap y
 | .inr y => C.B.heap y
def zgt (P : Program) (f : FuncId) (args : List AV) (H : Heap) (v : AV) (H' : Heap) : Prop :=
 ∀ (β : At) (w : World) (cargs : Array Value), Rel β H w -> z2i H.n β args cargs.toList ->
  Calls P f cargs w fun e w' => ∃ β' c, e = .returned c ∧ Rel β' H' w' ∧ Le β H w β' H' w' ∧ VRel H'.n β' v c
def zgu (P : Program) (f : FuncId) (C : Con) : Prop := ∀ x, C.pre x -> zgt P f (C.D.args x) (C.D.heap x) (C.val x) (C.heap x)
abbrev Book := FuncId -> List AV -> Heap -> Option Con
def zgv (P : Program) (T : Book) : Prop := ∀ f args H C, T f args H = some C -> zgu P f C
def zgw (D : Dom) : Bool := D.rows.all fun r => !r.dead?
open Classical in
noncomputable def Book.cl (T : Book) : z20 := fun f args H => match T f args H with
 | none => none
 | some C => match C.D.mat args H [] with
  | none => none
  | some (x, ρ) => if C.pre x ∧ zgw C.D = true then
    match back (zf6 C.D ρ H (C.heap x)) (C.val x), zf5 C.D ρ H (C.heap x) with
    | some v, some H' => some (v, H')
    | _, _ => none
   else none
def Book.S (T : Book) : zag := fun f args H k => match T f args H with
 | none => False
 | some C => match zgw C.D with
  | true => C.D.matS args H [] fun x ρ => C.pre x ∧ (C.use x
    (fun y => zb2 (C.A.heap y) fun H1 => zgf (zf6 C.D ρ H H1) (C.A.one y) fun v => zgr C.D ρ H H1 fun H' => k v H')
    (fun y => zb2 (C.B.heap y) fun H1 => zgf (zf6 C.D ρ H H1) (C.B.one y) fun v => zgr C.D ρ H H1 fun H' => k v H'))
  | false => False
theorem Book.cls (T : Book) : ClS T.S T.cl := by
 intro f args H k h
 unfold Book.S at h
 unfold Book.cl
 split at h
 ·exact h.elim
 ·rename_i C hC
  split at h
  ·rename_i hnd
   obtain ⟨x, ρ, hm, h⟩ := Dom.matS_elim h
   obtain ⟨hp, h⟩ := h
   have h := C.ok _ _ _ h
   simp only [hm, if_pos (And.intro hp hnd)]
   unfold Con.val Con.heap
   split at h
   ·rename_i y hy
    obtain ⟨v, hv, h⟩ := zgh (zb3 h)
    obtain ⟨H', hH, h⟩ := zgs h
    simp only [hy, hv, hH]
    exact ⟨v, H', rfl, h⟩
   ·rename_i y hy
    obtain ⟨v, hv, h⟩ := zgh (zb3 h)
    obtain ⟨H', hH, h⟩ := zgs h
    simp only [hy, hv, hH]
    exact ⟨v, H', rfl, h⟩
  ·exact h.elim
theorem zgx {H : Heap} {β : At} {w : World} (hR : Rel β H w) {D : Dom} {x : D.den} {ρ : Rho} {B : Nat -> Option Base} {cs : List Value} (hc : Cast D x H β w ρ B cs) : ∀ i r g, D.rows[i]? = some r -> r.rw = true -> Src.row? (ρ.find i) = some g -> g < H.n := by
 intro i r g hr hrw hs
 obtain ⟨s, bs, hs', _, _, _, hm⟩ := hc.row i r hr (zfm hrw)
 rw [hs'] at hs
 rcases hm hrw with ⟨h, _⟩ | ⟨g', c, e, hg', _, hrow⟩
 ·subst h; cases hs
 ·rw [hs] at hg'; cases hg'; exact hR.row_lt hrow
theorem Book.callOk {P : Program} {T : Book} (hT : zgv P T) : z6t P T.cl := by
 intro f args H v H' h β w cargs hR ha
 unfold Book.cl at h
 split at h
 ·cases h
 ·rename_i C hC
  split at h
  ·cases h
  ·rename_i x ρ hm
   split at h
   ·rename_i hp
    split at h
    ·rename_i v0 H0 hv hH
     cases h
     obtain ⟨B, hc, _, _⟩ := zer hR hm ha (B0 := fun _ => none) (fun g s hs => by simp [Rho.find] at hs)
     have hnd : ∀ r, r ∈ C.D.rows -> r.dead? = false := by
      have := hp.2
      unfold zgw at this
      intro r hr
      simpa using List.all_eq_true.1 this r hr
     refine (hT f args H C hC x hp.1 (C.D.at_ β B) w cargs hc.rel (by rw [Dom.heap_n]; exact hc.args)).mono ?_
     rintro e w' ⟨β1, c, rfl, hR1, hLe, hv1⟩
     have hrows := zg0 hR.fresh hc (zgx hR hc) hH
     obtain ⟨q1, q2, q3⟩ := zg1 hR hc hnd hR1 hLe hrows
     exact ⟨_, c, rfl, q1, q2, q3 _ _ _ hv hv1⟩
    ·cases h
   ·cases h
theorem Book.later (T : Book) : zcd T.cl := by
 intro f args H v H' h
 unfold Book.cl at h
 split at h
 ·cases h
 ·split at h
  ·cases h
  ·split at h
   ·split at h
    ·rename_i hH
     cases h
     unfold zf5 at hH
     split at hH
     ·rename_i L NL hL hNL
      cases hH
      have h1 : zc2 H (zf1 H L) := by
       clear hL
       induction L with
       | nil => exact zc2.refl _
       | cons p L ih => exact ih.trans (zc2.set _ _ _)
      have h2 : ∀ (NL : List AObj) (H0 : Heap), zc2 H0 (zd7 H0 NL) := by
       intro NL
       induction NL with
       | nil => intro H0; exact zc2.refl _
       | cons o NL ih => intro H0; exact (zc2.push _ _).trans (ih _)
      exact h1.trans (h2 _ _)
     ·cases hH
    ·cases h
   ·cases h
end Go.Vx
end
section
namespace Go.Vx
def zgy : List Nat -> List AV -> Trie AV -> Trie AV
 | i :: is, v :: vs, t => zgy is vs (t.set i v)
 | _, _, t => t
def tmOf (N:Nat) (live : List Nat) (vs : List AV) : Tm := { n := N, t := zgy live vs .leaf }
def zgz (m : Tm) : List Nat -> Option (List AV)
 | [] => some []
 | i :: l => match m.get i, zgz m l with
  | some v, some vs => some (v :: vs)
  | _, _ => none
def zh0 : List Nat -> List AV -> Trie AV -> (Trie AV -> Prop) -> Prop
 | i :: is, v :: vs, t, k => setK (i + 1) t i v fun t => zh0 is vs t k
 | [], _, t, k => k t
 | _ :: _, [], t, k => k t
theorem zh1 : ∀ {is : List Nat} {vs : List AV} {t : Trie AV} {k : Trie AV -> Prop}, zh0 is vs t k -> k (zgy is vs t)
 | i :: is, v :: vs, t, k, h => by
  simp only [zh0] at h
  have := zb4 h
  simp only [zgy]
  exact zh1 this
 | [], vs, t, k, h => by cases vs <;> simpa only [zh0, zgy] using h
 | _ :: _, [], t, k, h => by simpa only [zh0, zgy] using h
theorem zh2 {N : Nat} {β : At} {m : Tm} {tmps : Array Value} (hT : TRel N β m tmps) : ∀ {l : List Nat} {vs : List AV}, zgz m l = some vs -> ∃ cs : List Value, z2i N β vs cs ∧ cs.length = l.length ∧ ∀ (j i:Nat), l[j]? = some i -> tmps[i]? = cs[j]?
 | [], vs, h => by simp only [zgz, Option.some.injEq] at h; subst h; exact ⟨[], .nil, rfl, fun j i h => by simp at h⟩
 | i :: l, vs, h => by
  simp only [zgz] at h
  split at h
  ·rename_i v vs' h1 h2
   cases h
   obtain ⟨c, hc, hr⟩ := hT.2 i v h1
   obtain ⟨cs, hcs, hl, hg⟩ := zh2 hT h2
   refine ⟨c :: cs, .cons _ _ _ _ hr hcs, by simp [hl], fun j i' hj => ?_⟩
   cases j with
   | zero => simp at hj; subst hj; simpa using hc
   | succ j => simpa using hg j i' (by simpa using hj)
  ·cases h
theorem zh3 : ∀ (is : List Nat) (vs : List AV) (t : Trie AV) (i:Nat) (v : AV), (zgy is vs t).get i = some v -> (∃ j : Nat, is[j]? = some i ∧ vs[j]? = some v) ∨ t.get i = some v
 | [], vs, t, i, v, h => by cases vs <;> exact .inr h
 | _ :: _, [], t, i, v, h => .inr h
 | i0 :: is, v0 :: vs, t, i, v, h => by
  simp only [zgy] at h
  rcases zh3 is vs _ i v h with ⟨j, h1, h2⟩ | h1
  ·exact .inl ⟨j + 1, by simpa using h1, by simpa using h2⟩
  ·rw [Trie.get_set] at h1
   split at h1
   ·rename_i e; cases h1; exact .inl ⟨0, by simp [e], by simp⟩
   ·exact .inr h1
theorem zh4 {N n : Nat} {β : At} {tmps : Array Value} {live : List Nat} {vs : List AV} {cs : List Value} (hs : tmps.size = n) (hv : z2i N β vs cs) (hg : ∀ (j i:Nat), live[j]? = some i -> tmps[i]? = cs[j]?) : TRel N β (tmOf n live vs) tmps := by
 refine ⟨hs, fun i v h => ?_⟩
 unfold tmOf Tm.get at h
 simp only at h
 rcases zh3 _ _ _ _ _ h with ⟨j, h1, h2⟩ | h1
 ·obtain ⟨c, hc, hr⟩ := hv.at j v h2
  exact ⟨c, by rw [hg j i h1]; exact hc, hr⟩
 ·rw [Trie.get_leaf] at h1; cases h1
def zh5 (D : Dom) (live : List Nat) (K:Nat) (m : Tm) (H : Heap) (k : D.den -> Prop) : Prop :=
 match Nat.ble K D.rows.length with
 | true => must (zgz m live) fun vs => D.matS vs H (zes K) fun x _ => k x
 | false => False
theorem zh6 {D : Dom} {live : List Nat} {K : Nat} {m : Tm} {H : Heap} {k : D.den -> Prop} (h : zh5 D live K m H k) {β : At} {w : World} (hR : Rel β H w) {S : zcs} (hSK : S.H.n = K) (hS : S.le β H w) {tmps : Array Value} (hT : TRel H.n β m tmps) :
  ∃ x, k x ∧ ∃ β1, Rel β1 (D.heap x) w ∧ S.le β1 (D.heap x) w ∧ TRel (D.heap x).n β1 (tmOf m.n live (D.args x)) tmps := by
 unfold zh5 at h
 split at h
 ·rename_i hK
  obtain ⟨vs, hvs, h⟩ := z8s h
  obtain ⟨x, ρ, hm, hk⟩ := Dom.matS_elim h
  obtain ⟨cs, hcs, _, hg⟩ := zh2 hT hvs
  obtain ⟨β1, q1, q2, q3⟩ := zeu hR hm (Nat.le_of_ble_eq_true hK) hcs hSK hS
  exact ⟨x, hk, β1, q1, q2, zh4 hT.1 q3 hg⟩
 ·exact h.elim
def zh7 : Code -> Option Nat
 | .region id _ _ => some id
 | .seq a b => match zh7 a with
  | some i => some i
  | none => zh7 b
 | .cond _ a b => match zh7 a with
  | some i => some i
  | none => zh7 b
 | .block _ b => zh7 b
 | .loop b => zh7 b
 | _ => none
def zh8 (id:Nat) (b : Code) : Bool := match zh7 b with
 | some i => Nat.beq i id
 | none => false
def zh9 (c : Code) (id:Nat) : List Code := (zd1 c).filter (zh8 id)
def zha (c : Code) (id:Nat) : Code := match zh9 c id with
 | [b] => b
 | _ => .skip
def zhb (c : Code) (id:Nat) : Bool := match zh9 c id with
 | [_] => true
 | _ => false
theorem zhc {c : Code} {id : Nat} (h : zhb c id = true) : zh9 c id = [zha c id] := by
 unfold zhb at h
 unfold zha
 cases e : zh9 c id with
 | nil => rw [e] at h; cases h
 | cons b t =>
  cases t with
  | nil => rfl
  | cons b' t => rw [e] at h; cases h
structure Lap where
 id : Nat
 N : Nat
 live : List Nat
 D : Dom
 oA : Out
 liveA : List Nat
 A : Dom
 oB : Out := .ret
 liveB : List Nat := []
 B : Dom := ⟨[], .nil⟩
 /-- Which arrivals it is for. -/
 sel : Tm -> Heap -> Bool := fun _ _ => true
 inv : D.den -> Prop := fun _ => True
 /-- What may come out, at the one end, at the other. -/
 relA : D.den -> A.den -> Prop
 relB : D.den -> B.den -> Prop := fun _ _ => False
 use : D.den -> (A.den -> Prop) -> (B.den -> Prop) -> Prop := fun x ka _ => ∀ y, relA x y -> ka y
 ok : ∀ x ka kb, use x ka kb -> (∀ y, relA x y -> ka y) ∧ (∀ y, relB x y -> kb y) := by intro x ka kb h; exact ⟨h, fun y hy => hy.elim⟩
def Lap.tm (l : Lap) (x : l.D.den) : Tm := tmOf l.N l.live (l.D.args x)
def Lap.tmA (l : Lap) (y : l.A.den) : Tm := tmOf l.N l.liveA (l.A.args y)
def Lap.tmB (l : Lap) (y : l.B.den) : Tm := tmOf l.N l.liveB (l.B.args y)
def Lap.behind (l : Lap) (x : l.D.den) (k : Out -> Tm -> Heap -> Prop) : Prop :=
 (∀ y, l.relA x y -> k l.oA (l.tmA y) (l.A.heap y)) ∧ ∀ y, l.relB x y -> k l.oB (l.tmB y) (l.B.heap y)
def endT (o : Out) (N:Nat) (live : List Nat) (D : Dom) (k : Out -> Tm -> Heap -> Prop) (y : D.den) : Prop :=
 zat (D.args y) fun vs => zh0 live vs .leaf fun t => zb2 (D.heap y) fun H => k o ⟨N, t⟩ H
theorem zhd {o : Out} {N : Nat} {live : List Nat} {D : Dom} {k : Out -> Tm -> Heap -> Prop} {y : D.den} (h : endT o N live D k y) : k o (tmOf N live (D.args y)) (D.heap y) := by
 unfold endT at h
 exact zb3 (zh1 (zav h))
def Lap.L (l : Lap) (K:Nat) (m : Tm) (H : Heap) (k : Out -> Tm -> Heap -> Prop) : Prop :=
 match Nat.beq m.n l.N with
 | true => zh5 l.D l.live K m H fun x => l.inv x ∧ l.use x (endT l.oA l.N l.liveA l.A k) (endT l.oB l.N l.liveB l.B k)
 | false => False
def zhe (P : Program) (K:Nat) (c : Code) (l : Lap) : Prop :=
 ∀ S : zcs, S.H.n = K -> ∀ x, l.inv x -> ∀ k, l.behind x k -> zd0 P S (zha c l.id) (l.tm x) (l.D.heap x) k
def zhf (K:Nat) : List Lap -> zah
 | [], _, _, _, _ => none
 | l :: ls, b, m, H, k => match zh8 l.id b with
  | true => match l.sel m H with
   | true => some (l.L K m H k)
   | false => zhf K ls b m H k
  | false => zhf K ls b m H k
theorem zct.mono {S : zcs} {d : Act} {k k' : Out -> Tm -> Heap -> Prop} {Q : Exit -> Act -> World -> Prop} (h : zct S d k Q) (hk : ∀ o m H, k' o m H -> k o m H) : zct S d k' Q := fun o m H hq => h o m H (hk o m H hq)
theorem zhg {P : Program} {K : Nat} {c : Code} : ∀ {ls : List Lap}, (∀ l, l ∈ ls -> zhe P K c l ∧ zhb c l.id = true) -> zd2 P K (zd1 c) (zhf K ls)
 | [], _, S, hSK, b, hb, m, H, k, p, hp, h => by simp only [zhf] at hp; cases hp
 | l :: ls, hls, S, hSK, b, hb, m, H, k, p, hp, h => by
  simp only [zhf] at hp
  split at hp
  ·rename_i hi
   split at hp
   case h_2 => exact zhg (fun l hl => hls l (by simp [hl])) S hSK b hb m H k p hp h
   cases hp
   obtain ⟨hl, h1⟩ := hls l (by simp)
   have hbl : zha c l.id = b := by
    have hm : b ∈ zh9 c l.id := List.mem_filter.2 ⟨hb, hi⟩
    rw [zhc h1] at hm
    simp at hm
    exact hm.symm
   rw [← hbl]
   unfold Lap.L at h
   split at h
   ·rename_i hn
    have hn := Nat.eq_of_beq_eq_true hn
    intro a β w hR hS hT Q hQ
    obtain ⟨x, ⟨hinv, hu⟩, β1, q1, q2, q3⟩ := zh6 h hR hSK hS hT
    rw [hn] at q3
    refine hl S hSK x hinv k ?_ a β1 w q1 q2 q3 Q hQ
    have := l.ok _ _ _ hu
    exact ⟨fun y hy => zhd (this.1 y hy), fun y hy => zhd (this.2 y hy)⟩
   ·exact h.elim
  ·exact zhg (fun l hl => hls l (by simp [hl])) S hSK b hb m H k p hp h
def Lap.round (l : Lap) (K:Nat) (again : l.D.den -> Prop) (qa : l.A.den -> Prop) (qb : l.B.den -> Prop) : Out -> Tm -> Heap -> Prop := fun o m H =>
 match o with
 | .norm => match Nat.beq m.n l.N with
  | true => zh5 l.D l.live K m H again
  | false => False
 | o => match Nat.beq m.n l.N with
  | true => bif outEq o l.oA then zh5 l.A l.liveA K m H qa else bif outEq o l.oB then zh5 l.B l.liveB K m H qb else False
  | false => False
where outEq : Out -> Out -> Bool
 | .norm, .norm => true
 | .ret, .ret => true
 | .exit i, .exit j => Nat.beq i j
 | _, _ => false
theorem zhh {a b : Out} (h : Lap.round.outEq a b = true) : a = b := by
 unfold Lap.round.outEq at h
 split at h
 ·rfl
 ·rfl
 ·rw [Nat.eq_of_beq_eq_true h]
 ·cases h
def HOk (P : Program) (S : zag) : Prop := ∃ cl, ClS S cl ∧ z6t P cl ∧ zcd cl
theorem zgv.hok {P : Program} {T : Book} (hT : zgv P T) : HOk P T.S := ⟨T.cl, T.cls, T.callOk hT, T.later⟩
theorem zhi {P : Program} (hm : P.follows .mixedOrders = true) {S0 : zag} (hS0 : HOk P S0) {K : Nat} {c : Code} {l : Lap} {ls : List Lap} (hls : ∀ l, l ∈ ls -> zhe P K c l ∧ zhb c l.id = true) (h1 : zhb c l.id = true) (hC : zbr P (zha c l.id) = true) (n:Nat) (μ : l.D.den -> Nat)
  (h : ∀ x, l.inv x -> zbt P S0 S0 (zhf K ls) n (zha c l.id) (l.tm x) (l.D.heap x) (l.round K (fun x' => l.inv x' ∧ μ x' < μ x ∧ (∀ y, l.relA x' y -> l.relA x y) ∧ ∀ y, l.relB x' y -> l.relB x y) (l.relA x) (l.relB x))) : zhe P K c l := by
 have hsub : ∀ b, b ∈ zd1 (zha c l.id) -> b ∈ zd1 c := by
  have hb : zha c l.id ∈ zd1 c := by
   have : zha c l.id ∈ zh9 c l.id := by rw [zhc h1]; simp
   exact (List.mem_filter.1 this).1
  have key : ∀ (c : Code) (b : Code), b ∈ zd1 c -> ∀ b', b' ∈ zd1 b -> b' ∈ zd1 c := by
   intro c
   induction c with
   | seq x y ihx ihy =>
    intro b hb b' hb'
    simp only [zd1, List.mem_append] at hb ⊢
    rcases hb with hb | hb
    ·exact .inl (ihx b hb b' hb')
    ·exact .inr (ihy b hb b' hb')
   | cond q x y ihx ihy =>
    intro b hb b' hb'
    simp only [zd1, List.mem_append] at hb ⊢
    rcases hb with hb | hb
    ·exact .inl (ihx b hb b' hb')
    ·exact .inr (ihy b hb b' hb')
   | block id x ih => intro b hb b' hb'; exact ih b hb b' hb'
   | loop x ih =>
    intro b hb b' hb'
    simp only [zd1, List.mem_cons] at hb ⊢
    rcases hb with rfl | hb
    ·exact .inr hb'
    ·exact .inr (ih b hb b' hb')
   | _ => intro b hb; simp [zd1] at hb
  exact fun b hb' => key c _ hb b hb'
 intro S hSK x
 generalize hμ : μ x = N
 induction N using Nat.strongRecOn generalizing x with
 | ind N ih =>
  intro hinv k hk a β w hR hS hT' Q hQ
  subst hμ
  obtain ⟨cl, q1, q2, q3⟩ := hS0
  refine zcy ((zd3 hm (SOk.of_cl q1 q2) q1 q2 q3 (zhg hls) hSK n).1 _ hC hsub (h x hinv) a β w hR hS hT' _ fun o m' H' hq β' a' w' hR' hS' hT2 hd' => ?_)
  unfold Lap.round at hq
  cases o with
  | norm =>
   simp only at hq
   split at hq
   ·rename_i hn
    obtain ⟨x', ⟨hinv', hlt, hsA, hsB⟩, β1, q1, q2, q3⟩ := zh6 hq hR' hSK hS' hT2
    rw [Nat.eq_of_beq_eq_true hn] at q3
    exact ih (μ x') hlt x' rfl hinv' k ⟨fun y hy => hk.1 y (hsA y hy), fun y hy => hk.2 y (hsB y hy)⟩ a' β1 w' q1 q2 q3 Q (hQ.defers hd')
   ·exact hq.elim
  | exit id =>
   simp only at hq
   split at hq
   ·rename_i hn
    cases e1 : Lap.round.outEq (.exit id) l.oA with
    | true =>
     rw [e1] at hq
     obtain ⟨y, hy, β1, q1, q2, q3⟩ := zh6 hq hR' hSK hS' hT2
     rw [Nat.eq_of_beq_eq_true hn] at q3
     have := hQ l.oA (l.tmA y) (l.A.heap y) (hk.1 y hy) β1 a' w' q1 q2 q3 hd'
     rw [← zhh e1] at this
     exact this
    | false =>
     rw [e1] at hq
     cases e2 : Lap.round.outEq (.exit id) l.oB with
     | true =>
      rw [e2] at hq
      obtain ⟨y, hy, β1, q1, q2, q3⟩ := zh6 hq hR' hSK hS' hT2
      rw [Nat.eq_of_beq_eq_true hn] at q3
      have := hQ l.oB (l.tmB y) (l.B.heap y) (hk.2 y hy) β1 a' w' q1 q2 q3 hd'
      rw [← zhh e2] at this
      exact this
     | false => rw [e2] at hq; exact hq.elim
   ·exact hq.elim
  | ret =>
   simp only at hq
   split at hq
   ·rename_i hn
    cases e1 : Lap.round.outEq .ret l.oA with
    | true =>
     rw [e1] at hq
     obtain ⟨y, hy, β1, q1, q2, q3⟩ := zh6 hq hR' hSK hS' hT2
     rw [Nat.eq_of_beq_eq_true hn] at q3
     have := hQ l.oA (l.tmA y) (l.A.heap y) (hk.1 y hy) β1 a' w' q1 q2 q3 hd'
     rw [← zhh e1] at this
     exact this
    | false =>
     rw [e1] at hq
     cases e2 : Lap.round.outEq .ret l.oB with
     | true =>
      rw [e2] at hq
      obtain ⟨y, hy, β1, q1, q2, q3⟩ := zh6 hq hR' hSK hS' hT2
      rw [Nat.eq_of_beq_eq_true hn] at q3
      have := hQ l.oB (l.tmB y) (l.B.heap y) (hk.2 y hy) β1 a' w' q1 q2 q3 hd'
      rw [← zhh e2] at this
      exact this
     | false => rw [e2] at hq; exact hq.elim
   ·exact hq.elim
def endZ (A : Dom) (v : AV) (H : Heap) (k : AV -> Heap -> Prop) : Prop := match A.vals with
 | .vec t => z99 (z9a (z9b t)) t v H k
 | _ => k v H
theorem zhj {A : Dom} {v : AV} {H : Heap} {k : AV -> Heap -> Prop} {β : At} {w : World} {c : Value} (h : endZ A v H k) (hR : Rel β H w) (hv : VRel H.n β v c) : ∃ v' H' β', Rel β' H' w ∧ Le β H w β' H' w ∧ VRel H'.n β' v' c ∧ k v' H' := by
 unfold endZ at h
 split at h
 ·rename_i t _
  obtain ⟨v', H', h1, h2⟩ := z9f (z9g (z9h t)) h
  obtain ⟨β', hm, hv'⟩ := z5c (z5e (z5f t)) h1 hR hv
  exact ⟨v', H', β', hm.rel, hm.le, by rw [hm.n]; exact hv', h2⟩
 ·exact ⟨v, H, β, hR, Le.refl _ _ _, hv, h⟩
def endC (K:Nat) (sel : AV -> Bool) (A B : Dom) (qa : A.den -> Prop) (qb : B.den -> Prop) : AV -> Heap -> Prop := fun v H =>
 match sel v with
 | true => match Nat.ble K A.rows.length with
  | true => endZ A v H fun v H => A.matS [v] H (zes K) fun y _ => qa y
  | false => False
 | false => match Nat.ble K B.rows.length with
  | true => B.matS [v] H (zes K) fun y _ => qb y
  | false => False
theorem zhk {P : Program} (hm : P.follows .mixedOrders = true) {S0 : zag} (hS0 : HOk P S0) {f : FuncId} {fn : Func} {c : Code} (hf : P.funcs[f]? = some fn) (hb : fn.body = some c) (hC : zbr P c = true) {C : Con} {ls : List Lap} (hls : ∀ l, l ∈ ls -> zhe P C.D.rows.length c l ∧ zhb c l.id = true) (n:Nat) (sel : AV -> Bool)
  (hA : ∀ y, (C.A.args y).length = 1) (hB : (∀ y, (C.B.args y).length = 1) ∨ ∀ x y, C.pre x -> C.spec x ≠ .inr y)
  (h : ∀ x, C.pre x -> zbu P S0 S0 (zhf C.D.rows.length ls) n fn c (C.D.args x) (C.D.heap x) (endC C.D.rows.length sel C.A C.B (fun y => C.spec x = .inl y) (fun y => C.spec x = .inr y))) : zgu P f C := by
 intro x hx β w cargs hR ha
 have hLn : (C.D.heap x).n = C.D.rows.length := C.D.heap_n x
 have hL : zd2 P (C.D.heap x).n (zd1 c) (zhf C.D.rows.length ls) := by rw [hLn]; exact zhg hls
 obtain ⟨cl, q1, q2, q3⟩ := hS0
 refine (zd4 hm (SOk.of_cl q1 q2) q1 q2 q3 hf hb hC hL (h x hx) β w cargs hR ha).mono ?_
 rintro e w' ⟨v, H', hk, β', c', rfl, hR', hLe, hv⟩
 have hone : ∀ (D : Dom) (y : D.den), (D.args y).length = 1 -> D.args y = [D.one y] := by
  intro D y hy
  unfold Dom.one
  cases h : D.args y with
  | nil => rw [h] at hy; simp at hy
  | cons v l =>
   rw [h] at hy
   have : l = [] := List.length_eq_zero_iff.1 (by simpa using hy)
   subst this
   rfl
 unfold endC at hk
 split at hk
 ·split at hk
  ·rename_i hK
   obtain ⟨v, H', β', hR', hLe2, hv, hk⟩ := zhj hk hR' hv
   have hLe := hLe.trans hLe2
   obtain ⟨y, ρ, hmat, hq⟩ := Dom.matS_elim hk
   obtain ⟨β1, q1, q2, q3⟩ := zeu hR' hmat (Nat.le_of_ble_eq_true hK) (.one hv) (S := ⟨β, C.D.heap x, w, hR.fresh⟩) hLn hLe
   have hval : C.val x = C.A.one y := by unfold Con.val; rw [hq]
   have hheap : C.heap x = C.A.heap y := by unfold Con.heap; rw [hq]
   rw [hone C.A y (hA y)] at q3
   refine ⟨β1, c', rfl, by rw [hheap]; exact q1, by rw [hheap]; exact q2, ?_⟩
   rw [hheap, hval]
   cases q3 with
   | cons _ _ _ _ h1 _ => exact h1
  ·exact hk.elim
 ·split at hk
  ·rename_i hK
   obtain ⟨y, ρ, hmat, hq⟩ := Dom.matS_elim hk
   obtain ⟨β1, q1, q2, q3⟩ := zeu hR' hmat (Nat.le_of_ble_eq_true hK) (.one hv) (S := ⟨β, C.D.heap x, w, hR.fresh⟩) hLn hLe
   have hval : C.val x = C.B.one y := by unfold Con.val; rw [hq]
   have hheap : C.heap x = C.B.heap y := by unfold Con.heap; rw [hq]
   have hB1 : (C.B.args y).length = 1 := by
    rcases hB with h | h
    ·exact h y
    ·exact absurd hq (h x y hx)
   rw [hone C.B y hB1] at q3
   refine ⟨β1, c', rfl, by rw [hheap]; exact q1, by rw [hheap]; exact q2, ?_⟩
   rw [hheap, hval]
   cases q3 with
   | cons _ _ _ _ h1 _ => exact h1
  ·exact hk.elim
end Go.Vx
end
section
namespace Go.Vx
section book
variable (P : Program) (T : Book)
noncomputable def clB : Nat -> z20
 | 0 => T.cl
 | n + 1 => fun f args H => match T f args H with
  | some _ => T.cl f args H
  | none => match P.funcs[f]? with
   | some fn => match fn.body with
    | some c => bodyA P (clB n) 60 fn c args H
    | none => none
   | none => none
def zhl : Nat -> zag
 | 0 => T.S
 | n + 1 => fun f args H k => match T f args H with
  | some _ => T.S f args H k
  | none => match P.funcs[f]? with
   | some fn => match fn.body with
    | some c => match zbq P c with
     | true => zbu P (zhl n) (zhl n) (fun _ _ _ _ => none) 60 fn c args H k
     | false => False
    | none => False
   | none => False
end book
section sound
variable {P : Program} {T : Book}
theorem zhm (hm : P.follows .mixedOrders = true) (hT : zgv P T) : ∀ n, z6t P (clB P T n)
 | 0 => T.callOk hT
 | n + 1 => fun f args H v H' h => by
  simp only [clB] at h
  split at h
  ·exact T.callOk hT f args H v H' h
  ·split at h
   ·rename_i fn hf
    split at h
    ·rename_i c hb
     exact fun β w cargs hR ha => z8n hm (zhm hm hT n) hf hb h hR ha
    ·cases h
   ·cases h
theorem zhn : ∀ n, zcd (clB P T n)
 | 0 => T.later
 | n + 1 => fun f args H v H' h => by
  simp only [clB] at h
  split at h
  ·exact T.later f args H v H' h
  ·split at h
   ·split at h
    ·unfold bodyA at h
     split at h
     ·split at h
      ·rename_i m H1 he
       obtain ⟨_, _, he2⟩ := map_some h
       simp only [Prod.mk.injEq] at he2
       rw [← he2.2]
       exact zch (zhn n) 60 _ he
      ·rename_i m H1 he
       obtain ⟨_, _, he2⟩ := map_some h
       simp only [Prod.mk.injEq] at he2
       rw [← he2.2]
       exact zch (zhn n) 60 _ he
      ·cases h
     ·cases h
    ·cases h
   ·cases h
theorem zho : ∀ n, ClS (zhl P T n) (clB P T n)
 | 0 => T.cls
 | n + 1 => fun f args H k h => by
  simp only [zhl] at h
  simp only [clB]
  split at h
  ·rename_i C hC
   exact T.cls f args H k h
  ·split at h
   ·rename_i fn hf
    split at h
    ·rename_i c hc
     split at h
     ·rename_i hpl
      unfold zbu at h
      split at h
      ·exact h.elim
      ·rename_i hl
       obtain ⟨o, m, H', he, h⟩ := zcq (zho n) (zhn n) 60 c hpl h
       have hle : args.length <= fn.ntmps := Nat.le_of_ble_eq_true hl
       cases o with
       | norm =>
        obtain ⟨l, hr, hk⟩ := z8s h
        exact ⟨_, _, by simp only [bodyA, if_pos hle, he, hr, Option.map_some], hk⟩
       | ret =>
        obtain ⟨l, hr, hk⟩ := z8s h
        exact ⟨_, _, by simp only [bodyA, if_pos hle, he, hr, Option.map_some], hk⟩
       | exit id => exact h.elim
     ·exact h.elim
    ·exact h.elim
   ·exact h.elim
theorem zhp (hm : P.follows .mixedOrders = true) (hT : zgv P T) (n:Nat) : HOk P (zhl P T n) := ⟨clB P T n, zho n, zhm hm hT n, zhn n⟩
end sound
noncomputable def fnOf (P : Program) (f:Nat) : Func := (P.funcs[f]?).getD default
noncomputable def codeOf (P : Program) (f:Nat) : Code := match (fnOf P f).body with
 | some c => c
 | none => .skip
def isFn (P : Program) (f:Nat) : Bool := match P.funcs[f]? with
 | some fn => fn.body.isSome
 | none => false
theorem zhq {P : Program} {f : Nat} (h : isFn P f = true) : P.funcs[f]? = some (fnOf P f) ∧ (fnOf P f).body = some (codeOf P f) := by
 unfold isFn at h
 unfold codeOf
 split at h
 ·rename_i fn hf
  have e : fnOf P f = fn := by unfold fnOf; rw [hf]; rfl
  rw [e]
  refine ⟨hf, ?_⟩
  cases hb : fn.body with
  | none => rw [hb] at h; cases h
  | some c => rfl
 ·cases h
theorem zhr {P : Program} (hP : zbs P = true) {f : Nat} (h : isFn P f = true) : zbr P (codeOf P f) = true := zcr hP (zhq h).1 (zhq h).2
theorem zhs {P : Program} : ∀ {c b : Code}, zbr P c = true -> b ∈ zd1 c -> zbr P b = true := by
 intro c
 induction c with
 | seq x y ihx ihy =>
  intro b hc hb
  simp only [zbr, Bool.and_eq_true] at hc
  simp only [zd1, List.mem_append] at hb
  rcases hb with hb | hb
  ·exact ihx hc.1 hb
  ·exact ihy hc.2 hb
 | cond q x y ihx ihy =>
  intro b hc hb
  simp only [zbr, Bool.and_eq_true] at hc
  simp only [zd1, List.mem_append] at hb
  rcases hb with hb | hb
  ·exact ihx hc.1 hb
  ·exact ihy hc.2 hb
 | block id x ih => intro b hc hb; exact ih (by simpa only [zbr] using hc) hb
 | loop x ih =>
  intro b hc hb
  have hc : zbr P x = true := by simpa only [zbr] using hc
  simp only [zd1, List.mem_cons] at hb
  rcases hb with rfl | hb
  ·exact hc
  ·exact ih hc hb
 | _ => intro b hc hb; simp [zd1] at hb
def Con.run (P : Program) (T : Book) (d:Nat) (ls : List Lap) (f:Nat) (C : Con) (sel : AV -> Bool) (x : C.D.den) (qa : C.A.den -> Prop) (qb : C.B.den -> Prop) : Prop :=
 zbu P (zhl P T d) (zhl P T d) (zhf C.D.rows.length ls) 100 (fnOf P f) (codeOf P f) (C.D.args x) (C.D.heap x) (endC C.D.rows.length sel C.A C.B qa qb)
def Lap.run (P : Program) (T : Book) (d K:Nat) (ls : List Lap) (f:Nat) (l : Lap) (x : l.D.den) (again : l.D.den -> Prop) (qa : l.A.den -> Prop) (qb : l.B.den -> Prop) : Prop :=
 zbt P (zhl P T d) (zhl P T d) (zhf K ls) 100 (zha (codeOf P f) l.id) (l.tm x) (l.D.heap x) (l.round K again qa qb)
def zht (P : Program) (K f:Nat) (ls : List Lap) : Prop := ∀ l, l ∈ ls -> zhe P K (codeOf P f) l ∧ zhb (codeOf P f) l.id = true
theorem zht.nil {P : Program} {K f : Nat} : zht P K f [] := fun l h => by simp at h
theorem zht.cons {P : Program} {K f : Nat} {l : Lap} {ls : List Lap} (h : zhe P K (codeOf P f) l) (h1 : zhb (codeOf P f) l.id = true) (hs : zht P K f ls) : zht P K f (l :: ls) := fun l' hl => by
 rcases List.mem_cons.1 hl with rfl | hl
 ·exact ⟨h, h1⟩
 ·exact hs l' hl
theorem Con.proved {P : Program} (hm : P.follows .mixedOrders = true) (hP : zbs P = true) {T : Book} (hT : zgv P T) {f : Nat} {C : Con} (hf : isFn P f = true) {ls : List Lap} (hls : zht P C.D.rows.length f ls) (d:Nat) (sel : AV -> Bool)
  (hA : ∀ y, (C.A.args y).length = 1) (hB : (∀ y, (C.B.args y).length = 1) ∨ ∀ x y, C.pre x -> C.spec x ≠ .inr y)
  (h : ∀ x, C.pre x -> C.run P T d ls f sel x (fun y => C.spec x = .inl y) (fun y => C.spec x = .inr y)) : zgu P f C :=
 zhk hm (zhp hm hT d) (zhq hf).1 (zhq hf).2 (zhr hP hf) hls 100 sel hA hB h
theorem Lap.proved {P : Program} (hm : P.follows .mixedOrders = true) (hP : zbs P = true) {T : Book} (hT : zgv P T) {K f : Nat} {l : Lap} (hf : isFn P f = true) (h1 : zhb (codeOf P f) l.id = true) {ls : List Lap} (hls : zht P K f ls) (d:Nat) (μ : l.D.den -> Nat)
  (h : ∀ x, l.inv x -> l.run P T d K ls f x (fun x' => l.inv x' ∧ μ x' < μ x ∧ (∀ y, l.relA x' y -> l.relA x y) ∧ ∀ y, l.relB x' y -> l.relB x y) (l.relA x) (l.relB x)) : zhe P K (codeOf P f) l := by
 refine zhi hm (zhp hm hT d) hls h1 ?_ 100 μ h
 have : zha (codeOf P f) l.id ∈ zh9 (codeOf P f) l.id := by rw [zhc h1]; simp
 exact zhs (zhr hP hf) (List.mem_filter.1 this).1
def Book.none : Book := fun _ _ _ => .none
theorem zgv.none (P : Program) : zgv P Book.none := fun f args H C h => by cases h
def Book.add (T : Book) (f : FuncId) (C : Con) : Book := fun g args H => match Nat.beq g f with
 | true => some C
 | false => T g args H
theorem zgv.add {P : Program} {T : Book} (hT : zgv P T) {f : FuncId} {C : Con} (h : zgu P f C) : zgv P (T.add f C) := fun g args H C' hC => by
 unfold Book.add at hC
 split at hC
 ·rename_i e; cases hC; rw [Nat.eq_of_beq_eq_true e]; exact h
 ·exact hT g args H C' hC
end Go.Vx
end
section
namespace Go.Vx
open Go.ChangeShapes Go.WideShapes
def wfT : (t : Ty) -> t.den -> Prop
 | .bool, _ => True
 | .int k, n => (Lit.int k n).wf = true
 | .byte, _ => True
 | .str, s => s.length <= maxLen
 | .sl t, l => l.length <= maxLen ∧ ∀ x, x ∈ l -> wfT t x
 | .unit, _ => True
 | .pair a b, x => wfT a x.1 ∧ wfT b x.2
def wfV : (p : VP) -> p.den -> Prop
 | .int k, n => (Lit.int k n).wf = true
 | .str, s => s.length <= maxLen
 | .vec t, l => l.length <= maxLen ∧ ∀ x, x ∈ l -> wfT t x
 | .cat a b, x => wfV a x.1 ∧ wfV b x.2
 | .agg l, x => wfV l x
 | .tup l, x => wfV l x
 | _, _ => True
def tyIn (P : Program) : Ty -> (TypeId ⊕ (Nat × List Field)) -> Bool
 | .bool, .inl t => match P.underlying t with
  | some .bool => true
  | _ => false
 | .int k, .inl t => match P.underlying t with
  | some (.int q) => decide (k = q)
  | _ => false
 | .byte, .inl t => match P.underlying t with
  | some (.int q) => decide (q = .u8)
  | _ => false
 | .str, .inl t => match P.underlying t with
  | some .string => true
  | _ => false
 | .sl T, .inl t => match P.underlying t with
  | some (.slice e) => decide (P.cellsOf e = T.z) && (decide (0 < T.z) && tyIn P T (.inl e))
  | _ => false
 | .unit, .inr (_, []) => true
 | .bool, .inr (off, [f]) => decide (f.offset = off) && (decide (P.cellsOf f.type = 1) && (match P.underlying f.type with
  | some .bool => true
  | _ => false))
 | .int k, .inr (off, [f]) => decide (f.offset = off) && (decide (P.cellsOf f.type = 1) && (match P.underlying f.type with
  | some (.int q) => decide (k = q)
  | _ => false))
 | .byte, .inr (off, [f]) => decide (f.offset = off) && (decide (P.cellsOf f.type = 1) && (match P.underlying f.type with
  | some (.int q) => decide (q = .u8)
  | _ => false))
 | .str, .inr (off, [f]) => decide (f.offset = off) && (decide (P.cellsOf f.type = 1) && (match P.underlying f.type with
  | some .string => true
  | _ => false))
 | .sl T, .inr (off, [f]) => decide (f.offset = off) && (decide (P.cellsOf f.type = 1) && (match P.underlying f.type with
  | some (.slice e) => decide (P.cellsOf e = T.z) && (decide (0 < T.z) && tyIn P T (.inl e))
  | _ => false))
 | .pair a b, .inl t => match P.underlying t with
  | some (.struct fs) => match fs.toList with
   | f :: fs => decide (P.cellsOf t = a.z + b.z) && (decide (f.offset = 0) && (decide (P.cellsOf f.type = a.z) && (tyIn P a (.inl f.type) && tyIn P b (.inr (a.z, fs)))))
   | [] => false
  | _ => false
 | .pair a b, .inr (off, f :: fs) => decide (f.offset = off) && (decide (P.cellsOf f.type = a.z) && (tyIn P a (.inl f.type) && tyIn P b (.inr (off + a.z, fs))))
 | _, _ => false
theorem zhu {α : Type} {p : Nat -> α -> Prop} : ∀ n : Nat, (∀ i, i < n -> ∃ x, p i x) -> ∃ l : List α, l.length = n ∧ ∀ i x, l[i]? = some x -> p i x
 | 0, _ => ⟨[], rfl, fun i x h => by simp at h⟩
 | n + 1, h => by
  obtain ⟨l, hl, hp⟩ := zhu n fun i hi => h i (by omega)
  obtain ⟨x, hx⟩ := h n (by omega)
  refine ⟨l ++ [x], by simp [hl], fun i y hy => ?_⟩
  by_cases hi : i < n
  ·exact hp i y (by rwa [List.getElem?_append_left (by omega)] at hy)
  ·rw [List.getElem?_append_right (by omega), hl] at hy
   have : i = n := by
    have := (List.getElem?_eq_some_iff.1 hy).1
    simp at this; omega
   subst this
   simp at hy
   subst hy
   exact hx
theorem zhv {w : World} {base : Nat} {a : Addr} {n : Nat} {cs : List Value} (h : w.cells? base a n = some cs) : cs.length = n ∧ ∀ i c, cs[i]? = some c -> w.cell? ⟨a.block, a.off + i, none⟩ = some c := by
 unfold World.cells? at h
 split at h
 ·refine ⟨by simpa using mapM_some_length h, fun i c hc => ?_⟩
  have hi : i < n := by
   have := mapM_some_length h
   simp at this
   have := (List.getElem?_eq_some_iff.1 hc).1
   omega
  have := mapM_some_get h i i (by simp [hi])
  rw [hc] at this
  unfold Addr.add at this
  split at this
  ·rename_i e; subst e
   unfold World.cell? at this ⊢
   split at this
   ·split at this
    ·cases this
    ·rename_i h1 h2; simp only [h1]; simpa using this
   ·cases this
  ·exact this
 ·cases h
def Sees (β : At) (w : World) : Prop := ∀ b o c, w.cell? ⟨b, o, none⟩ = some c -> β.imm b o = some c
section zbk
variable {H : Type} {en : TypeId × Value -> H} {P : Program} {w : World} {base : Nat} {sp : Nat -> Bool} {hd : Bool}
theorem zhw {α : Type} (cs : List α) (o x y:Nat) : (cs.drop o).take x ++ (cs.drop (o + x)).take y = (cs.drop o).take (x + y) := by
 rw [← List.drop_drop, List.take_add]
def zhx (P : Program) (T : Ty) : Prop := ∀ off fs, tyIn P T (.inr (off, fs)) = true -> ∃ f, fs = [f] ∧ f.offset = off ∧ P.cellsOf f.type = T.z ∧ tyIn P T (.inl f.type) = true
theorem zhy : zhx P .bool := fun off fs h => by
 match fs, h with
 | [], h => simp [tyIn] at h
 | [f], h =>
  simp only [tyIn, Bool.and_eq_true, decide_eq_true_eq] at h
  exact ⟨f, rfl, h.1, h.2.1, h.2.2⟩
 | _ :: _ :: _, h => simp [tyIn] at h
theorem zhz {k : IntKind} : zhx P (.int k) := fun off fs h => by
 match fs, h with
 | [], h => simp [tyIn] at h
 | [f], h =>
  simp only [tyIn, Bool.and_eq_true, decide_eq_true_eq] at h
  exact ⟨f, rfl, h.1, h.2.1, h.2.2⟩
 | _ :: _ :: _, h => simp [tyIn] at h
theorem zi0 : zhx P .byte := fun off fs h => by
 match fs, h with
 | [], h => simp [tyIn] at h
 | [f], h =>
  simp only [tyIn, Bool.and_eq_true, decide_eq_true_eq] at h
  exact ⟨f, rfl, h.1, h.2.1, h.2.2⟩
 | _ :: _ :: _, h => simp [tyIn] at h
theorem zi1 : zhx P .str := fun off fs h => by
 match fs, h with
 | [], h => simp [tyIn] at h
 | [f], h =>
  simp only [tyIn, Bool.and_eq_true, decide_eq_true_eq] at h
  exact ⟨f, rfl, h.1, h.2.1, h.2.2⟩
 | _ :: _ :: _, h => simp [tyIn] at h
theorem zi2 {S : Ty} : zhx P (.sl S) := fun off fs h => by
 match fs, h with
 | [], h => simp [tyIn] at h
 | [f], h =>
  simp only [tyIn, Bool.and_eq_true, decide_eq_true_eq] at h
  exact ⟨f, rfl, h.1, h.2.1, h.2.2⟩
 | _ :: _ :: _, h => simp [tyIn] at h
theorem zi3 {T : Ty} (hT : zhx P T) (h1 : ∀ (t : TypeId) (cs : List Value) (fuel:Nat) (x : DataW H × List MemPlace), tyIn P T (.inl t) = true -> DataW.trod en P w base sp hd fuel t cs = some x ->
   ∃ d : T.den, wfT T d ∧ ∀ N β, Sees β w -> z2i N β (enc T d) cs) : (∀ (t : TypeId) (cs : List Value) (fuel:Nat) (x : DataW H × List MemPlace), tyIn P T (.inl t) = true -> DataW.trod en P w base sp hd fuel t cs = some x ->
   ∃ d : T.den, wfT T d ∧ ∀ N β, Sees β w -> z2i N β (enc T d) cs) ∧
  (∀ (off:Nat) (fs : List Field) (cs : List Value) (n:Nat), tyIn P T (.inr (off, fs)) = true ->
   (∀ f, f ∈ fs -> ∃ x, DataW.trod en P w base sp hd n f.type ((cs.drop f.offset).take (P.cellsOf f.type)) = some x) ->
   ∃ d : T.den, wfT T d ∧ ∀ N β, Sees β w -> z2i N β (enc T d) ((cs.drop off).take T.z)) := ⟨h1, fun off fs cs n ht hf => by
 obtain ⟨f, rfl, ho, hz, ht⟩ := hT off fs ht
 obtain ⟨x, h⟩ := hf f (by simp)
 obtain ⟨d, hd, hr⟩ := h1 f.type _ n x ht h
 exact ⟨d, hd, fun N β hs => by have := hr N β hs; rwa [ho, hz] at this⟩⟩
theorem zi4 : (T : Ty) ->
  (∀ (t : TypeId) (cs : List Value) (fuel:Nat) (x : DataW H × List MemPlace), tyIn P T (.inl t) = true -> DataW.trod en P w base sp hd fuel t cs = some x ->
   ∃ d : T.den, wfT T d ∧ ∀ N β, Sees β w -> z2i N β (enc T d) cs) ∧
  (∀ (off:Nat) (fs : List Field) (cs : List Value) (n:Nat), tyIn P T (.inr (off, fs)) = true ->
   (∀ f, f ∈ fs -> ∃ x, DataW.trod en P w base sp hd n f.type ((cs.drop f.offset).take (P.cellsOf f.type)) = some x) ->
   ∃ d : T.den, wfT T d ∧ ∀ N β, Sees β w -> z2i N β (enc T d) ((cs.drop off).take T.z))
 | .bool => zi3 zhy fun t cs fuel x ht h => by
   simp only [tyIn] at ht
   split at ht
   ·rename_i hu
    obtain ⟨b, rfl, _⟩ := DataW.trod_bool hu h
    exact ⟨b, trivial, fun N β _ => .one (.bool _ _)⟩
   ·exact (Bool.false_ne_true ht).elim
 | .int k => zi3 zhz fun t cs fuel x ht h => by
   simp only [tyIn] at ht
   split at ht
   ·rename_i q hu
    have hq := of_decide_eq_true ht
    subst hq
    obtain ⟨n, rfl, _, hw⟩ := DataW.trod_int hu h
    exact ⟨n, hw, fun N β _ => .one (.int _ _ _)⟩
   ·exact (Bool.false_ne_true ht).elim
 | .byte => zi3 zi0 fun t cs fuel x ht h => by
   simp only [tyIn] at ht
   split at ht
   ·rename_i q hu
    have hq := of_decide_eq_true ht
    subst hq
    obtain ⟨n, rfl, _, hw⟩ := DataW.trod_int hu h
    simp only [Lit.wf, Bool.and_eq_true, decide_eq_true_eq, IntKind.min, IntKind.max, IntKind.signed, IntKind.bits] at hw
    have h0 : 0 <= n := by simpa using hw.1
    have h1 : n < 256 := by have := hw.2; simp at this; omega
    refine ⟨UInt8.ofNat n.toNat, trivial, fun N β _ => ?_⟩
    have : n = ((UInt8.ofNat n.toNat).toNat:Int) := by simp [UInt8.toNat_ofNat']; omega
    conv => rhs; rw [this]
    exact .one (.int _ _ _)
   ·exact (Bool.false_ne_true ht).elim
 | .str => zi3 zi1 fun t cs fuel x ht h => by
   simp only [tyIn] at ht
   split at ht
   ·rename_i hu
    obtain ⟨s, rfl, _, hw⟩ := DataW.trod_string hu h
    exact ⟨s.data.toList, (by show s.data.toList.length <= maxLen; simpa using hw), fun N β _ => .one (.str _ _ _ rfl)⟩
   ·exact (Bool.false_ne_true ht).elim
 | .sl T => zi3 zi2 fun t cs fuel x ht h => by
   simp only [tyIn] at ht
   split at ht
   ·rename_i e hu
    simp only [Bool.and_eq_true, decide_eq_true_eq] at ht
    obtain ⟨hz, hz0, ht⟩ := ht
    rcases DataW.trod_slice hu h with ⟨rfl, _⟩ | ⟨a, len, cap, elems, rest, n, _, rfl, _, _, hl, hc, hlen, hel, _, _⟩
    ·refine ⟨[], ⟨by simp, fun x hx => by simp at hx⟩, fun N β _ => .one ?_⟩
     exact .vec T [] 0 none 0 0 (fun _ => .nilIface) (by simp) ⟨fun h => by simp at h, fun _ => rfl⟩ (fun k v h => by simp [encL] at h) (fun k v h => by simp [encL] at h)
    ·have hex : ∀ i, i < len -> ∃ d : T.den, ∃ cs, w.cells? base (a.add (i * T.z)) T.z = some cs ∧ wfT T d ∧ ∀ N β, Sees β w -> z2i N β (enc T d) cs := fun i hi => by
      have h1 := hel i hi
      rw [hz, List.getElem?_eq_getElem (by omega)] at h1
      simp only [Option.bind_eq_some_iff] at h1
      obtain ⟨cs, hcs, h1⟩ := h1
      obtain ⟨d, hd1, hd2⟩ := (zi4 T).1 e cs n _ ht h1
      exact ⟨d, cs, hcs, hd1, hd2⟩
     obtain ⟨l, hll, hl'⟩ := zhu len hex
     subst hll
     refine ⟨l, ⟨by omega, fun x hx => ?_⟩, fun N β hs => .one ?_⟩
     ·obtain ⟨i, hi⟩ := List.getElem?_of_mem hx
      obtain ⟨_, _, h, _⟩ := hl' i x hi
      exact h
     ·have key : ∀ k v, (encL T l)[k]? = some v -> ∃ c, w.cell? ⟨a.block, a.off + k, none⟩ = some c ∧ VRel N β v c ∧ (k = 0 -> a.spot = none) := fun k v hk => by
       have hkl := (List.getElem?_eq_some_iff.1 hk).1
       rw [z04] at hkl
       have hi : k / T.z < l.length := Nat.div_lt_of_lt_mul (by rwa [Nat.mul_comm])
       have ho : k % T.z < T.z := Nat.mod_lt _ hz0
       have hk' : k / T.z * T.z + k % T.z = k := by rw [Nat.mul_comm]; exact Nat.div_add_mod _ _
       rw [← hk', z09 T l _ _ hi ho] at hk
       obtain ⟨cs, hcs, _, hr⟩ := hl' (k / T.z) (l.getD (k / T.z) T.dflt) (by rw [List.getD_eq_getElem?_getD, List.getElem?_eq_getElem hi]; rfl)
       obtain ⟨c, hc, hrel⟩ := (hr N β hs).at _ _ hk
       have hcell := (zhv hcs).2 _ _ hc
       refine ⟨c, ?_, hrel, fun h0 => ?_⟩
       ·rw [← hk']
        unfold Addr.add at hcell
        split at hcell
        ·rename_i e; rw [e, Nat.zero_add]; exact hcell
        ·rw [← Nat.add_assoc]; exact hcell
       ·subst h0
        have hd0 : (0:Nat) / T.z = 0 := Nat.zero_div _
        rw [hd0, Nat.zero_mul] at hcs
        unfold World.cells? at hcs
        split at hcs
        ·have h0 := mapM_some_get hcs 0 0 (List.getElem?_range hz0)
         have hl0 := mapM_some_length hcs
         simp at hl0
         rw [List.getElem?_eq_getElem (by omega)] at h0
         simp only [Addr.add, if_true] at h0
         unfold World.cell? at h0
         split at h0
         ·split at h0
          ·cases h0
          ·rename_i h2; simpa using h2
         ·cases h0
        ·cases hcs
      refine .vec T l cap (some a) a.block a.off (fun k => (w.cell? ⟨a.block, a.off + k, none⟩).getD .nilIface) hl ⟨fun h0 => ?_, fun h => by cases h⟩ (fun k v hk => ?_) (fun k v hk => ?_)
      ·have : 0 < (encL T l).length := by rw [z04]; exact Nat.mul_pos h0 hz0
       obtain ⟨c, _, _, hsp⟩ := key 0 _ (List.getElem?_eq_getElem this)
       have := hsp rfl
       cases a; simp_all
      ·obtain ⟨c, hc, _, _⟩ := key k v hk
       simp only [hc, Option.getD_some]
       exact hs _ _ _ hc
      ·obtain ⟨c, hc, hr, _⟩ := key k v hk
       simp only [hc, Option.getD_some]
       exact hr
   ·exact (Bool.false_ne_true ht).elim
 | .unit => ⟨fun t cs fuel x ht h => by simp [tyIn] at ht, fun off fs cs n ht hf => ⟨(), trivial, fun N β _ => by simpa [Ty.z, enc] using z2i.nil⟩⟩
 | .pair a b => ⟨fun t cs fuel x ht h => by
   simp only [tyIn] at ht
   split at ht
   ·rename_i fs hu
    split at ht
    ·rename_i f fs' hfs
     simp only [Bool.and_eq_true, decide_eq_true_eq] at ht
     obtain ⟨hz, ho, hfz, ha, hb⟩ := ht
     obtain ⟨xs, n, _, _, hl, hlen, hf⟩ := DataW.trod_struct hu h
     have hall : ∀ g, g ∈ fs.toList -> ∃ x, DataW.trod en P w base sp hd n g.type ((cs.drop g.offset).take (P.cellsOf g.type)) = some x := fun g hg => by
      obtain ⟨i, hi⟩ := List.getElem?_of_mem hg
      have hi' : fs[i]? = some g := by simpa using hi
      have := hf i g hi'
      have hlt : i < xs.length := by
       have := (Array.getElem?_eq_some_iff.1 hi').1
       omega
      rw [List.getElem?_eq_getElem hlt] at this
      exact ⟨_, this⟩
     obtain ⟨x0, h0⟩ := hall f (by rw [hfs]; simp)
     obtain ⟨d, hd1, hd2⟩ := (zi4 a).1 f.type _ _ _ ha h0
     obtain ⟨d', hd3, hd4⟩ := (zi4 b).2 a.z fs' cs n hb fun g hg => hall g (by rw [hfs]; simp [hg])
     refine ⟨(d, d'), ⟨hd1, hd3⟩, fun N β hs => ?_⟩
     have := (hd2 N β hs).append (hd4 N β hs)
     rw [ho, hfz] at this
     have e := zhw cs 0 a.z b.z
     rw [Nat.zero_add] at e
     rw [e, List.drop_zero, List.take_of_length_le (by omega)] at this
     exact this
    ·cases ht
   ·exact (Bool.false_ne_true ht).elim, fun off fs cs n ht hf => by
   match fs, ht, hf with
   | f :: fs, ht, hf =>
    simp only [tyIn, Bool.and_eq_true, decide_eq_true_eq] at ht
    obtain ⟨ho, hfz, ha, hb⟩ := ht
    obtain ⟨x0, h0⟩ := hf f (by simp)
    obtain ⟨d, hd1, hd2⟩ := (zi4 a).1 f.type _ _ _ ha h0
    obtain ⟨d', hd3, hd4⟩ := (zi4 b).2 (off + a.z) fs cs n hb fun g hg => hf g (by simp [hg])
    refine ⟨(d, d'), ⟨hd1, hd3⟩, fun N β hs => ?_⟩
    have := (hd2 N β hs).append (hd4 N β hs)
    rw [ho, hfz, zhw] at this
    exact this
   | [], ht, hf => simp [tyIn] at ht⟩
def tyVP : Ty -> VP
 | .bool => .bool
 | .int k => .int k
 | .byte => .byte
 | .str => .str
 | .sl t => .vec t
 | .unit => .nil
 | .pair a b => .cat (tyVP a) (tyVP b)
theorem zi5 : (T : Ty) -> (d : T.den) -> wfT T d -> ∃ x : (tyVP T).den, wfV (tyVP T) x ∧ ∀ len, encV (tyVP T) x len = enc T d
 | .bool, d, _ => ⟨d, trivial, fun _ => rfl⟩
 | .int k, d, h => ⟨d, h, fun _ => rfl⟩
 | .byte, d, _ => ⟨d, trivial, fun _ => rfl⟩
 | .str, d, h => ⟨d, h, fun _ => rfl⟩
 | .sl t, d, h => ⟨d, h, fun _ => rfl⟩
 | .unit, d, _ => ⟨(), trivial, fun _ => rfl⟩
 | .pair a b, d, h => by
  obtain ⟨x, hx, ex⟩ := zi5 a d.1 h.1
  obtain ⟨y, hy, ey⟩ := zi5 b d.2 h.2
  exact ⟨(x, y), ⟨hx, hy⟩, fun len => by simp only [tyVP, encV, enc, ex, ey]⟩
def zi6 : Ty -> VP
 | .pair a b => .agg (tyVP (.pair a b))
 | T => tyVP T
def parV : List Ty -> VP
 | [] => .nil
 | [T] => zi6 T
 | T :: Ts => .cat (zi6 T) (parV Ts)
theorem zi7 {r : Reach} {b0 : Nat} {T : Ty} {t : TypeId} {v : Value} {d : DataW H} {ps : List MemPlace} (hT : tyIn P T (.inl t) = true) (hv : Value.okWide P w r b0 t v) (h : DataW.Trod en P w base sp hd t v d ps) :
  ∃ x : (zi6 T).den, wfV (zi6 T) x ∧ ∀ N β len, Sees β w -> z2i N β (encV (zi6 T) x len) [v] := by
 obtain ⟨fuel, h⟩ := h
 obtain ⟨d', hd', hr⟩ := (zi4 T).1 t _ fuel _ hT h
 obtain ⟨x, hx, ex⟩ := zi5 T d' hd'
 cases T with
 | pair a b =>
  simp only [tyIn] at hT
  split at hT
  ·rename_i fs hu
   obtain ⟨cs, rfl, _⟩ := okWide_struct hu hv
   refine ⟨x, hx, fun N β len hs => .one (.agg _ _ ?_)⟩
   have := hr N β hs
   rw [← ex len] at this
   exact this
  ·cases hT
 | unit => simp [tyIn] at hT
 | bool =>
  simp only [tyIn] at hT
  split at hT
  ·rename_i hu
   obtain ⟨b, rfl⟩ := okWide_bool hu hv
   exact ⟨x, hx, fun N β len hs => by have := hr N β hs; rw [← ex len] at this; exact this⟩
  ·cases hT
 | int k =>
  simp only [tyIn] at hT
  split at hT
  ·rename_i q hu
   obtain ⟨b, rfl⟩ := okWide_int hu hv
   exact ⟨x, hx, fun N β len hs => by have := hr N β hs; rw [← ex len] at this; exact this⟩
  ·cases hT
 | byte =>
  simp only [tyIn] at hT
  split at hT
  ·rename_i q hu
   obtain ⟨b, rfl⟩ := okWide_int hu hv
   exact ⟨x, hx, fun N β len hs => by have := hr N β hs; rw [← ex len] at this; exact this⟩
  ·cases hT
 | str =>
  simp only [tyIn] at hT
  split at hT
  ·rename_i hu
   obtain ⟨b, rfl⟩ := okWide_string hu hv
   exact ⟨x, hx, fun N β len hs => by have := hr N β hs; rw [← ex len] at this; exact this⟩
  ·cases hT
 | sl T =>
  simp only [tyIn] at hT
  split at hT
  ·rename_i e hu
   obtain ⟨a, l, c, rfl⟩ := okWide_slice hu hv
   exact ⟨x, hx, fun N β len hs => by have := hr N β hs; rw [← ex len] at this; exact this⟩
  ·cases hT
def parsIn (P : Program) : List TypeId -> List Ty -> Bool
 | [], [] => true
 | t :: ts, T :: Ts => tyIn P T (.inl t) && parsIn P ts Ts
 | _, _ => false
theorem zi8 {r : Reach} {b0 : Nat} : ∀ {ts : List TypeId} {Ts : List Ty} {vs : List Value} {ds : List (DataW H)} {ps : List MemPlace}, parsIn P ts Ts = true ->
  (∀ (j:Nat) t v, ts[j]? = some t -> vs[j]? = some v -> Value.okWide P w r b0 t v) -> DataW.TrodAll en P w base sp hd ts vs ds ps ->
  ∃ x : (parV Ts).den, wfV (parV Ts) x ∧ ∀ N β len, Sees β w -> z2i N β (encV (parV Ts) x len) vs
 | [], [], vs, ds, ps, _, _, h => by
  obtain ⟨rfl, _, _⟩ := trodAll_nil h
  exact ⟨(), trivial, fun _ _ _ _ => .nil⟩
 | t :: ts, T :: Ts, vs, ds, ps, ht, hv, h => by
  simp only [parsIn, Bool.and_eq_true] at ht
  obtain ⟨v, vs', d, ds', p, q, rfl, _, _, h1, h2⟩ := trodAll_cons h
  obtain ⟨x, hx, hxr⟩ := zi7 ht.1 (hv 0 t v rfl rfl) h1
  obtain ⟨y, hy, hyr⟩ := zi8 ht.2 (fun j t' v' h1 h2 => hv (j + 1) t' v' (by simpa using h1) (by simpa using h2)) h2
  cases Ts with
  | nil =>
   cases ts with
   | nil =>
    obtain ⟨rfl, _, _⟩ := trodAll_nil h2
    exact ⟨x, hx, fun N β len hs => hxr N β len hs⟩
   | cons a b => simp [parsIn] at ht
  | cons T' Ts' => exact ⟨(x, y), ⟨hx, hy⟩, fun N β len hs => (hxr N β len hs).append (hyr N β len hs)⟩
 | [], _ :: _, _, _, _, ht, _, _ => by simp [parsIn] at ht
 | _ :: _, [], _, _, _, ht, _, _ => by simp [parsIn] at ht
end zbk
theorem Kept.sameAt {w w' : World} (h : Kept w w') {p : MemPlace} (hp : p.block < w.heap.size) : w.sameAt w' p := by
 have hk := h.1.2.2 p.block hp
 cases p with
 | cell b off =>
  show w'.cell? ⟨b, off, none⟩ = w.cell? ⟨b, off, none⟩
  simp only [MemPlace.block] at hk
  unfold World.cell?
  simp only
  split at hk
  ·rename_i c t fr c' t' fr' h1 h2
   rw [h1, h2]
   simp only [Option.isSome_none, Bool.false_eq_true, if_false]
   exact hk.2.2.2 off fun f => f
  ·rename_i h1 h2
   rw [h1, h2]
  ·rw [hk]
 | map b =>
  show w'.heap[b]? = w.heap[b]?
  simp only [MemPlace.block] at hk
  split at hk
  ·rename_i c t fr c' t' fr' h1 h2
   obtain ⟨rfl, rfl, _, he⟩ := hk
   have : c' = c := Array.ext_getElem? fun j => he j fun f => f
   rw [h1, h2, this]
  ·rename_i h1 h2
   rcases hk with f | ⟨rfl, rfl⟩
   ·exact f.elim
   ·rw [h1, h2]
  ·exact hk
section again
variable {H : Type} {en : TypeId × Value -> H} {P : Program} {w w' : World} {base : Nat} {sp : Nat -> Bool} {hd : Bool}
theorem zi9 : ∀ {ts : List TypeId} {vs : List Value} {ds : List (DataW H)} {ps : List MemPlace}, DataW.TrodAll en P w base sp hd ts vs ds ps -> (∀ p, p ∈ ps -> w.sameAt w' p) -> DataW.TrodAll en P w' base sp hd ts vs ds ps
 | [], [], [], _, h, _ => h
 | _ :: _, _ :: _, _ :: _, _, ⟨p, q, ⟨n, h1⟩, h2, e⟩, hs => ⟨p, q, ⟨n, DataW.trod_carry n _ _ _ h1 fun x hx => hs x (by rw [e]; exact List.mem_append_left _ hx)⟩, zi9 h2 fun x hx => hs x (by rw [e]; exact List.mem_append_right _ hx), e⟩
theorem trodAll_length : ∀ {ts : List TypeId} {vs : List Value} {ds : List (DataW H)} {ps : List MemPlace}, DataW.TrodAll en P w base sp hd ts vs ds ps -> ds.length = ts.length
 | [], [], [], _, _ => rfl
 | _ :: _, _ :: _, _ :: _, _, ⟨_, _, _, h2, _⟩ => by simp only [List.length_cons, trodAll_length h2]
theorem read_again (hl : laidOutB P = true) (hm : mapsRowed P = true)
  (hf : ((List.range P.types.size).all fun t => match P.underlying t with | some (.slice e) => decide (0 < P.cellsOf e) | _ => true) = true)
  {ts : List TypeId} (hts : (ts.all fun t => decide (t < P.types.size)) = true) {vs : List Value} {ds : List (DataW H)} {ps : List MemPlace} (h : DataW.TrodAll en P w 0 (fun _ => true) true ts vs ds ps) (hlt : ∀ p, p ∈ ps -> p.block < w.heap.size) (hk : Kept w w')
  (hs : ∀ p, p ∈ ps -> sp p.block = true) : DataW.TrodAll en P w' 0 sp true ts vs ds ps :=
 zi9 (DataW.TrodAll.respare (kids_rows hl hm) (slices_full_of P hf) (fun t ht => by have := List.all_eq_true.1 hts t ht; simpa using this) h hs) fun p hp => hk.sameAt (hlt p hp)
end again
def zia (Ts : List Ty) : Con where
 D := ⟨[], parV Ts⟩
 A := ⟨[], .bool⟩
 pre := fun x => wfV (parV Ts) x.2
 spec := fun _ => .inl ((), true)
theorem law_calls {P : Program} {f : FuncId} {Ts : List Ty} (hC : zgu P f (zia Ts)) {H : Type} {en : TypeId × Value -> H} {w : World} {r : Reach} {b0 : Nat} {ts : List TypeId} {args : Array Value} {ds : List (DataW H)} {ps : List MemPlace}
  (ht : parsIn P ts Ts = true) (hv : ∀ (j:Nat) t v, ts[j]? = some t -> args.toList[j]? = some v -> Value.okWide P w r b0 t v) (hA : DataW.TrodAll en P w 0 (fun _ => true) true ts args.toList ds ps)
  (hG : z2k fun b o => w.cell? ⟨b, o, none⟩) (hT : z2m (fun b o => w.cell? ⟨b, o, none⟩) w) : Calls P f args w fun e w' => e = .returned (.bool true) ∧ Kept w w' := by
 obtain ⟨x, hx, hr⟩ := zi8 ht hv hA
 have hR : Rel ⟨fun _ => none, fun b o => w.cell? ⟨b, o, none⟩⟩ Heap.empty w := z8p w _ (fun _ _ _ h => h) hG hT
 refine (hC ((), x) hx _ w args hR (Dom.args_eq (zia Ts).D ((), x) ▸ hr _ _ _ fun b o c h => h)).mono ?_
 rintro e w' ⟨β', c, rfl, hR', hLe, hv⟩
 have hv : VRel 0 β' (.bool true true) c := hv
 have hLe : Le _ Heap.empty w β' _ w' := hLe
 rw [z30 hv]
 exact ⟨rfl, z8o (fun g cs e h => by simp [Heap.empty, Heap.row, Heap.get, Trie.get_leaf] at h) hLe⟩
theorem glob_none (h : z2j = []) {i : Nat -> Nat -> Option Value} : z2k i := fun g hg => by rw [h] at hg; simp at hg
theorem tabs_none (h : z2l = []) {i : Nat -> Nat -> Option Value} {w : World} : z2m i w := fun g k l hg => by rw [h] at hg; simp at hg
end Go.Vx
end
section
namespace Go.Vx
class Eqb (α : Type) where
 eq : (a b : α) -> Decidable (a = b)
instance : Eqb Int := ⟨fun a b => inferInstance⟩
instance : Eqb Nat := ⟨fun a b => inferInstance⟩
instance : Eqb Bool := ⟨fun a b => inferInstance⟩
instance : Eqb UInt8 := ⟨fun a b => inferInstance⟩
instance : Eqb Unit := ⟨fun a b => inferInstance⟩
instance {α β : Type} [Eqb α] [Eqb β] : Eqb (α × β) := ⟨@instDecidableEqProd α β Eqb.eq Eqb.eq⟩
instance {α β : Type} [Eqb α] [Eqb β] : Eqb (α ⊕ β) := ⟨@instDecidableEqSum α β Eqb.eq Eqb.eq⟩
instance {α : Type} [Eqb α] : Eqb (List α) := ⟨@instDecidableEqList α Eqb.eq⟩
inductive Tr (α : Type) : Type 1 where
 | ret (y : α)
 | bad
 | br (c:Bool) (a b : Tr α)
 | chk (p : Prop) [d : Decidable p] (a : Tr α)
 | ok (p : Prop) (h : p) (a : Tr α)
 | twice (a : Tr α)
 | two [d : Eqb α] (a b : Tr α)
 | call {β : Type} (o : Option β) (k : β -> Tr α)
 | both {β γ : Type} (o : Option (β ⊕ γ)) (k : β -> Tr α) (l : γ -> Tr α)
abbrev Tr.okl {α : Type} (n:Nat) (a : Tr α) : Tr α := .ok ((0:Nat) = (0:Nat) ∧ n = n) ⟨rfl, rfl⟩ a
def Tr.wp {α : Type} : Tr α -> (α -> Prop) -> Prop
 | .ret y, q => q y
 | .bad, _ => False
 | .br c a b, q => (c = true -> a.wp q) ∧ (c = false -> b.wp q)
 | @Tr.chk _ p _ a, q => p ∧ a.wp q
 | .ok p _ a, q => p ∧ a.wp q
 | .twice a, q => Twice (a.wp q) (a.wp q)
 | @Tr.two _ _ a b, q => Twice (a.wp q) (b.wp q)
 | .call o k, q => o ≠ none ∧ o ≠ none ∧ ∀ y, o = some y -> (k y).wp q
 | .both o k l, q => o ≠ none ∧ o ≠ none ∧ (∀ y, o = some (.inl y) -> (k y).wp q) ∧ ∀ y, o = some (.inr y) -> (l y).wp q
def Tr.val {α : Type} : Tr α -> Option α
 | .ret y => some y
 | .bad => none
 | .br c a b => bif c then a.val else b.val
 | @Tr.chk _ p d a => @ite _ p d a.val none
 | .ok _ _ a => a.val
 | .twice a => a.val
 | @Tr.two _ d a b => match a.val, b.val with
  | some x, some y => @ite _ (x = y) (d.eq x y) (some x) none
  | _, _ => none
 | .call o k => match o with
  | none => none
  | some y => (k y).val
 | .both o k l => match o with
  | none => none
  | some (.inl y) => (k y).val
  | some (.inr y) => (l y).val
theorem Tr.wp_of_val {α : Type} {q : α -> Prop} : ∀ {t : Tr α} {y : α}, t.val = some y -> q y -> t.wp q
 | .ret z, y, h, hq => by simp only [Tr.val, Option.some.injEq] at h; subst h; exact hq
 | .bad, y, h, _ => by simp [Tr.val] at h
 | .br c a b, y, h, hq => by
  cases c with
  | true => exact ⟨fun _ => Tr.wp_of_val (t := a) (by simpa [Tr.val] using h) hq, fun e => by cases e⟩
  | false => exact ⟨fun e => (by cases e), fun _ => Tr.wp_of_val (t := b) (by simpa [Tr.val] using h) hq⟩
 | @Tr.chk _ p d a, y, h, hq => by
  simp only [Tr.val] at h
  split at h
  ·rename_i hp; exact ⟨hp, Tr.wp_of_val h hq⟩
  ·cases h
 | .ok p hp a, y, h, hq => ⟨hp, Tr.wp_of_val (t := a) h hq⟩
 | .twice a, y, h, hq => ⟨Tr.wp_of_val (t := a) h hq, Tr.wp_of_val (t := a) h hq⟩
 | @Tr.two _ _ a b, y, h, hq => by
  simp only [Tr.val] at h
  split at h
  ·rename_i x z ha hb
   split at h
   ·rename_i e
    subst e
    cases h
    exact ⟨Tr.wp_of_val ha hq, Tr.wp_of_val hb hq⟩
   ·cases h
  ·cases h
 | .call o k, y, h, hq => by
  cases o with
  | none => simp [Tr.val] at h
  | some z => exact ⟨by simp, by simp, fun z' e => by cases e; exact Tr.wp_of_val h hq⟩
 | .both o k l, y, h, hq => by
  match o, h with
  | none, h => simp [Tr.val] at h
  | some (.inl z), h => exact ⟨by simp, by simp, fun z' e => (by cases e; exact Tr.wp_of_val h hq), fun z' e => by cases e⟩
  | some (.inr z), h => exact ⟨by simp, by simp, fun z' e => (by cases e), fun z' e => by cases e; exact Tr.wp_of_val h hq⟩
section zd1
variable {σ ρ : Type} (body : σ -> Tr (σ ⊕ ρ))
def iter : Nat -> σ -> Option ρ
 | 0, _ => none
 | n + 1, s => match (body s).val with
  | none => none
  | some (.inl s') => iter n s'
  | some (.inr r) => some r
def rounds : Nat := 1125899906842624
def Loop (s : σ) : Option ρ := iter body rounds s
theorem zib : ∀ (n:Nat) (s : σ) (r : ρ), iter body n s = some r -> iter body (n + 1) s = some r := by
 intro n
 induction n with
 | zero => intro s r h; simp [iter] at h
 | succ n ih =>
  intro s r h
  rw [iter] at h ⊢
  split
  ·rename_i e; rw [e] at h; cases h
  ·rename_i s' e; rw [e] at h; exact ih s' r h
  ·rename_i r' e; rw [e] at h; exact h
theorem zic {n m : Nat} (h : n <= m) {s : σ} {r : ρ} (hr : iter body n s = some r) : iter body m s = some r := by
 obtain ⟨k, rfl⟩ := Nat.exists_eq_add_of_le h
 induction k with
 | zero => exact hr
 | succ k ih => exact zib body _ _ _ (ih (by omega))
theorem zid (I : σ -> Prop) (μ : σ -> Nat) (R : σ -> ρ -> Prop)
  (h : ∀ s, I s -> (∃ r, (body s).val = some (.inr r) ∧ R s r) ∨ ∃ s', (body s).val = some (.inl s') ∧ I s' ∧ μ s' < μ s ∧ ∀ r, R s' r -> R s r) :
  ∀ (n:Nat) (s : σ), I s -> μ s < n -> ∃ r, iter body n s = some r ∧ R s r := by
 intro n
 induction n with
 | zero => intro s _ hn; omega
 | succ n ih =>
  intro s hi hn
  rw [iter]
  rcases h s hi with ⟨r, e, hr⟩ | ⟨s', e, hi', hm, hR⟩
  ·rw [e]; exact ⟨r, rfl, hr⟩
  ·rw [e]
   obtain ⟨r, e', hr⟩ := ih s' hi' (by omega)
   exact ⟨r, e', hR r hr⟩
theorem zie (I : σ -> Prop) (μ : σ -> Nat) (R : σ -> ρ -> Prop)
  (h : ∀ s, I s -> (∃ r, (body s).val = some (.inr r) ∧ R s r) ∨ ∃ s', (body s).val = some (.inl s') ∧ I s' ∧ μ s' < μ s ∧ ∀ r, R s' r -> R s r)
  {s : σ} (hi : I s) (hm : μ s < rounds) : ∃ r, Loop body s = some r ∧ R s r := zid body I μ R h rounds s hi hm
theorem zif {p : Nat -> Prop} (h : ∃ n, p n) : ∃ n, p n ∧ ∀ m, p m -> n <= m := by
 obtain ⟨n, hn⟩ := h
 induction n using Nat.strongRecOn with
 | ind n ih =>
  by_cases e : ∃ m, m < n ∧ p m
  ·obtain ⟨m, hm, hp⟩ := e; exact ih m hm hp
  ·exact ⟨n, hn, fun m hm => Nat.le_of_not_lt fun hlt => e ⟨m, hlt, hm⟩⟩
open Classical in
noncomputable def turns (s : σ) : Nat := if h : ∃ n, iter body n s ≠ none then (zif h).choose else 0
theorem zig {s : σ} {n : Nat} (h : iter body n s ≠ none) : iter body (turns body s) s ≠ none ∧ turns body s <= n := by
 have h' : ∃ n, iter body n s ≠ none := ⟨n, h⟩
 unfold turns
 rw [dif_pos h']
 exact ⟨(zif h').choose_spec.1, (zif h').choose_spec.2 n h⟩
theorem zih {s : σ} (h : Loop body s ≠ none) : ∃ x, (body s).val = some x ∧ (match x with
  | .inr r => Loop body s = some r
  | .inl s' => Loop body s' = Loop body s ∧ turns body s' < turns body s) := by
 obtain ⟨h1, h2⟩ := zig body h
 cases hn : turns body s with
 | zero => rw [hn] at h1; simp [iter] at h1
 | succ n =>
  rw [hn] at h1 h2
  cases e : (body s).val with
  | none => rw [iter, e] at h1; exact absurd rfl h1
  | some x =>
   refine ⟨x, rfl, ?_⟩
   cases x with
   | inr r =>
    have : iter body (n + 1) s = some r := by rw [iter, e]
    exact zic body h2 this
   | inl s' =>
    have e1 : iter body (n + 1) s = iter body n s' := by rw [iter, e]
    rw [e1] at h1
    obtain ⟨_, h4⟩ := zig body h1
    refine ⟨?_, by omega⟩
    cases hr : iter body n s' with
    | none => exact absurd hr h1
    | some r =>
     have a1 : Loop body s' = some r := zic body (by omega) hr
     have a2 : Loop body s = some r := zic body h2 (e1.trans hr)
     rw [a1, a2]
end zd1
def VP.dflt : (p : VP) -> p.den
 | .bool => false
 | .int _ => (0:Int)
 | .num _ => (0:Int)
 | .byte => (0:UInt8)
 | .str => ([] : List UInt8)
 | .vec _ => []
 | .lit _ => ()
 | .ptr _ _ _ _ => ()
 | .sl _ _ => ()
 | .part _ _ => (0, 0)
 | .nil => ()
 | .cat a b => (a.dflt, b.dflt)
 | .agg l => l.dflt
 | .tup l => l.dflt
 | .func _ a b => (a.dflt, b.dflt)
def RP.dflt : (r : RP) -> r.den
 | .vec _ _ _ => []
 | .cells p _ _ => p.dflt
 | .dead => ()
def zii : (l : List RP) -> rowsDen l
 | [] => ()
 | r :: rs => (r.dflt, zii rs)
def Dom.dflt (D : Dom) : D.den := (zii D.rows, D.vals.dflt)
def tcon (D A : Dom) {α : Type} (pa : D.den -> α -> A.den) (F : D.den -> Option α) : Con where
 D := D
 A := A
 pre := fun x => F x ≠ none
 spec := fun x => match F x with
  | some y => .inl (pa x y)
  | none => .inl A.dflt
 use := fun x ka _ => F x ≠ none ∧ ∀ y, F x = some y -> ka (pa x y)
 ok := fun x ka kb h => by
  cases e : F x with
  | some y => exact h.2 y e
  | none => exact absurd e h.1
theorem zij {P : Program} (hm : P.follows .mixedOrders = true) (hP : zbs P = true) {T : Book} (hT : zgv P T) {f : FuncId} {D A : Dom} {α : Type} {pa : D.den -> α -> A.den} {F : D.den -> Option α}
  (hf : isFn P f = true) {ls : List Lap} (hls : zht P D.rows.length f ls) (d:Nat) (hA : ∀ y, (A.args y).length = 1) (t : D.den -> Tr α) (hF : ∀ x, F x = (t x).val)
  (h : ∀ x qa qb, (tcon D A pa F).run P T d ls f (fun _ => true) x qa qb = (t x).wp fun y => qa (pa x y)) : zgu P f (tcon D A pa F) := by
 refine Con.proved hm hP hT hf hls d (fun _ => true) hA (.inr fun x y hx e => ?_) fun x hx => ?_
 ·simp only [tcon] at e
  split at e <;> cases e
 ·rw [h x]
  have hx : F x ≠ none := hx
  cases e : F x with
  | none => exact absurd e hx
  | some y =>
   refine Tr.wp_of_val ((hF x).symm.trans e) ?_
   simp only [tcon, e]
def Book.addS (T : Book) (f : FuncId) (sel : List AV -> Bool) (C : Con) : Book := fun g args H => match Nat.beq g f with
 | true => match sel args with
  | true => some C
  | false => T g args H
 | false => T g args H
theorem zgv.addS {P : Program} {T : Book} (hT : zgv P T) {f : FuncId} {sel : List AV -> Bool} {C : Con} (h : zgu P f C) : zgv P (T.addS f sel C) := fun g args H D hD => by
 unfold Book.addS at hD
 split at hD
 ·rename_i hg
  have := Nat.eq_of_beq_eq_true hg
  subst this
  split at hD
  ·cases hD; exact h
  ·exact hT _ _ _ _ hD
 ·exact hT _ _ _ _ hD
def zik (i n:Nat) (args : List AV) : Bool := match args[i]? with
 | some (.func (.func m) _ _) => Nat.beq m n
 | _ => false
theorem law_ok {P : Program} {f : FuncId} {Ts : List Ty} {F : (zia Ts).D.den -> Option Bool} (h : zgu P f (tcon (zia Ts).D (zia Ts).A (fun _ y => ((), y)) F)) (ht : ∀ x, (zia Ts).pre x -> F x = some true) : zgu P f (zia Ts) := fun x hx => by
 have e := ht x hx
 have hx' : (tcon (zia Ts).D (zia Ts).A (fun _ y => ((), y)) F).pre x := by show F x ≠ none; rw [e]; simp
 have := h x hx'
 simp only [tcon, Con.val, Con.heap, e] at this
 exact this
def tlap (id N:Nat) (live : List Nat) (D : Dom) (oA : Out) (liveA : List Nat) (A : Dom) {α : Type} (pa : D.den -> α -> A.den) (F : D.den -> Option α) : Lap where
 id := id
 N := N
 live := live
 D := D
 oA := oA
 liveA := liveA
 A := A
 inv := fun x => F x ≠ none
 relA := fun x y => ∃ a, F x = some a ∧ y = pa x a
 use := fun x ka _ => F x ≠ none ∧ ∀ y, F x = some y -> ka (pa x y)
 ok := fun x ka kb h => ⟨fun y ⟨a, e, hy⟩ => by subst hy; exact h.2 a e, fun y h => h.elim⟩
theorem zil {P : Program} (hm : P.follows .mixedOrders = true) (hP : zbs P = true) {T : Book} (hT : zgv P T) {K f id N : Nat} {live : List Nat} {D : Dom} {oA : Out} {liveA : List Nat} {A : Dom} {σ α : Type} {pa : D.den -> α -> A.den} {F : D.den -> Option α}
  (hf : isFn P f = true) (h1 : zhb (codeOf P f) id = true) {ls : List Lap} (hls : zht P K f ls) (d:Nat) (pk : D.den -> σ -> D.den) (un : D.den -> σ) (body : D.den -> σ -> Tr (σ ⊕ α)) (hu : ∀ x s, un (pk x s) = s) (hb : ∀ x s, body (pk x s) = body x) (hp : ∀ x s, pa (pk x s) = pa x) (hF : ∀ x, F x = Loop (body x) (un x))
  (h : ∀ x again qa qb, (tlap id N live D oA liveA A pa F).run P T d K ls f x again qa qb = (body x (un x)).wp fun r => match r with
   | .inl s => again (pk x s)
   | .inr a => qa (pa x a)) : zhe P K (codeOf P f) (tlap id N live D oA liveA A pa F) := by
 refine Lap.proved hm hP hT (l := tlap id N live D oA liveA A pa F) hf h1 hls d (fun x => turns (body x) (un x)) fun (x : D.den) (hx : F x ≠ none) => ?_
 rw [hF] at hx
 rw [h x]
 obtain ⟨r, e, hr⟩ := zih (body x) hx
 refine Tr.wp_of_val e ?_
 cases r with
 | inr a => exact ⟨a, (hF x).trans hr, rfl⟩
 | inl s =>
  have e1 : F (pk x s) = F x := by rw [hF, hF, hu, hb]; exact hr.1
  refine ⟨?_, ?_, fun y ⟨a, h1, h2⟩ => ⟨a, e1.symm.trans h1, by rw [h2, hp]⟩, fun y h => h⟩
  ·show F (pk x s) ≠ none
   rw [e1, hF]; exact hx
  ·show turns (body (pk x s)) (un (pk x s)) < turns (body x) (un x)
   rw [hu, hb]; exact hr.2
def zim (id N:Nat) (live : List Nat) (D : Dom) (oA : Out) (liveA : List Nat) (A : Dom) (oB : Out) (liveB : List Nat) (B : Dom) {α β : Type} (pa : D.den -> α -> A.den) (pb : D.den -> β -> B.den) (F : D.den -> Option (α ⊕ β)) : Lap where
 id := id
 N := N
 live := live
 D := D
 oA := oA
 liveA := liveA
 A := A
 oB := oB
 liveB := liveB
 B := B
 inv := fun x => F x ≠ none
 relA := fun x y => ∃ a, F x = some (.inl a) ∧ y = pa x a
 relB := fun x y => ∃ a, F x = some (.inr a) ∧ y = pb x a
 use := fun x ka kb => F x ≠ none ∧ (∀ y, F x = some (.inl y) -> ka (pa x y)) ∧ ∀ y, F x = some (.inr y) -> kb (pb x y)
 ok := fun x ka kb h => ⟨fun y ⟨a, e, hy⟩ => by subst hy; exact h.2.1 a e, fun y ⟨a, e, hy⟩ => by subst hy; exact h.2.2 a e⟩
theorem zin {P : Program} (hm : P.follows .mixedOrders = true) (hP : zbs P = true) {T : Book} (hT : zgv P T) {K f id N : Nat} {live : List Nat} {D : Dom} {oA oB : Out} {liveA liveB : List Nat} {A B : Dom} {σ α β : Type} {pa : D.den -> α -> A.den} {pb : D.den -> β -> B.den} {F : D.den -> Option (α ⊕ β)}
  (hf : isFn P f = true) (h1 : zhb (codeOf P f) id = true) {ls : List Lap} (hls : zht P K f ls) (d:Nat) (pk : D.den -> σ -> D.den) (un : D.den -> σ) (body : D.den -> σ -> Tr (σ ⊕ (α ⊕ β))) (hu : ∀ x s, un (pk x s) = s) (hb : ∀ x s, body (pk x s) = body x) (hp : ∀ x s, pa (pk x s) = pa x) (hp' : ∀ x s, pb (pk x s) = pb x) (hF : ∀ x, F x = Loop (body x) (un x))
  (h : ∀ x again qa qb, (zim id N live D oA liveA A oB liveB B pa pb F).run P T d K ls f x again qa qb = (body x (un x)).wp fun r => match r with
   | .inl s => again (pk x s)
   | .inr (.inl a) => qa (pa x a)
   | .inr (.inr a) => qb (pb x a)) : zhe P K (codeOf P f) (zim id N live D oA liveA A oB liveB B pa pb F) := by
 refine Lap.proved hm hP hT (l := zim id N live D oA liveA A oB liveB B pa pb F) hf h1 hls d (fun x => turns (body x) (un x)) fun (x : D.den) (hx : F x ≠ none) => ?_
 rw [hF] at hx
 rw [h x]
 obtain ⟨r, e, hr⟩ := zih (body x) hx
 refine Tr.wp_of_val e ?_
 cases r with
 | inr a =>
  cases a with
  | inl a => exact ⟨a, (hF x).trans hr, rfl⟩
  | inr a => exact ⟨a, (hF x).trans hr, rfl⟩
 | inl s =>
  have e1 : F (pk x s) = F x := by rw [hF, hF, hu, hb]; exact hr.1
  refine ⟨?_, ?_, fun y ⟨a, h1, h2⟩ => ⟨a, e1.symm.trans h1, by rw [h2, hp]⟩, fun y ⟨a, h1, h2⟩ => ⟨a, e1.symm.trans h1, by rw [h2, hp']⟩⟩
  ·show F (pk x s) ≠ none
   rw [e1, hF]; exact hx
  ·show turns (body (pk x s)) (un (pk x s)) < turns (body x) (un x)
   rw [hu, hb]; exact hr.2
end Go.Vx
end
section
set_option maxRecDepth 1000000
namespace Go.Vx
open Go Go.Vx Go.Proofs
theorem Base.mixed : Tryz.prog.follows .mixedOrders = true := by kernel_rfl
theorem Base.prog_ok : zbs Tryz.prog = true := by kernel_rfl
def zio : Book := Book.none
theorem zip : zgv Tryz.prog zio := zgv.none _
end Go.Vx
end
section
set_option maxRecDepth 1000000
namespace Go.Proofs
set_option maxHeartbeats 1000000 in
theorem Tryz.stringslite_IndexByte (s : ByteArray) (c:Int) (w : World) :
  Calls Tryz.prog 139 #[.string s, .int .u8 c] w fun e w' => e = .returned (.int .i64 (Lib.indexByte s.data.toList c.toNat.toUInt8)) ∧ w' = w := by
 go_enter Tryz.func139, Tryz.ntmps139
 go_wp2
 rw [run_callFunc_extern Tryz.func148 (by kernel_rfl) (by kernel_rfl) (by kernel_rfl) (e := Extern.BytealgIndexByte.indexByte) (by kernel_rfl), Lib.run_indexByteString]
 simp only [Result.andThen]
 rw [Oper.upon_value]
 go_wp2
 go_ret
 exact ⟨rfl, rfl⟩
set_option maxHeartbeats 1000000 in
theorem Tryz.strings_Count_one (s : ByteArray) (c:UInt8) (w : World) :
  Calls Tryz.prog 132 #[.string s, .string ⟨#[c]⟩] w fun e w' => e = .returned (.int .i64 (Lib.countByte s.data.toList c)) ∧ w' = w := by
 go_enter Tryz.func132, Tryz.ntmps132
 go_wp2
 rw [run_callFunc_extern Tryz.func146 (by kernel_rfl) (by kernel_rfl) (by kernel_rfl) (e := Extern.BytealgCount.count) (by kernel_rfl), Lib.run_countString]
 simp only [Result.andThen]
 rw [Oper.upon_value]
 go_wp2
 go_ret
 exact ⟨rfl, rfl⟩
end Go.Proofs
namespace Go.Vx
open Go Go.Vx Go.Proofs
def ziq (i:Nat) (l : List UInt8) (args : List AV) : Bool := match args[i]? with
 | some (.str false s) => decide (s = l)
 | _ => false
theorem zir {N : Nat} {β : At} {x y : AV} {cargs : Array Value} (h : z2i N β [x, y] cargs.toList) : ∃ c d, cargs = #[c, d] ∧ VRel N β x c ∧ VRel N β y d := by
 obtain ⟨l⟩ := cargs
 simp only at h
 cases h with
 | cons _ c _ cs h1 ht =>
  cases ht with
  | cons _ d _ cs' h2 ht' =>
   cases ht'
   exact ⟨c, d, rfl, h1, h2⟩
namespace q97
def D : Dom := ⟨[], (.cat .str (.int .u8))⟩
def A : Dom := ⟨[], .int .i64⟩
def sel : List Nat := [0, 1]
def f (s : List UInt8) (c:Int) : Option (Int) := some (Lib.indexByte s c.toNat.toUInt8)
def F (x : D.den) : Option (Int) := f x.2.1 x.2.2
def pa : D.den -> (Int) -> A.den := fun (_, (_, _)) y1 => ((), y1)
def con : Con := tcon D A pa F
theorem ok : zgu Tryz.prog 139 con := by
 rintro ⟨u, s, c⟩ hp β w cargs hR ha
 obtain ⟨a, b, rfl, h1, h2⟩ := zir (show z2i _ β [.str true s, .int true .u8 c] cargs.toList from ha)
 obtain ⟨b1, rfl, hb⟩ := z2y h1
 rw [z2z h2]
 refine (Go.Proofs.Tryz.stringslite_IndexByte b1 c w).mono ?_
 rintro e w' ⟨rfl, rfl⟩
 refine ⟨β, _, rfl, hR, Le.refl _ _ _, ?_⟩
 rw [hb]
 exact .int _ _ _
end q97
def q98 : Book := zio.add 139 q97.con
theorem q99 : zgv Tryz.prog q98 := zip.add q97.ok
namespace q9d
def D : Dom := ⟨[], (.cat .str .str)⟩
def A : Dom := ⟨[], .int .i64⟩
def sel : List Nat := [0, 1]
def f (s : List UInt8) (p : List UInt8) : Option (Int) := match p with
 | [c] => some (Lib.countByte s c)
 | _ => none
def F (x : D.den) : Option (Int) := f x.2.1 x.2.2
def pa : D.den -> (Int) -> A.den := fun (_, (_, _)) y1 => ((), y1)
def con : Con := tcon D A pa F
theorem ok : zgu Tryz.prog 132 con := by
 rintro ⟨u, s, p⟩ hp β w cargs hR ha
 obtain ⟨a, b, rfl, h1, h2⟩ := zir (show z2i _ β [.str true s, .str true p] cargs.toList from ha)
 obtain ⟨b1, rfl, hb⟩ := z2y h1
 obtain ⟨b2, rfl, hb2⟩ := z2y h2
 match p with
 | [] => exact absurd rfl hp
 | _ :: _ :: _ => exact absurd rfl hp
 | [c] =>
  obtain ⟨⟨l⟩⟩ := b2
  simp only at hb2
  subst hb2
  refine (Go.Proofs.Tryz.strings_Count_one b1 c w).mono ?_
  rintro e w' ⟨rfl, rfl⟩
  refine ⟨β, _, rfl, hR, Le.refl _ _ _, ?_⟩
  rw [hb]
  exact .int _ _ _
end q9d
def q9e : Book := q98.add 132 q9d.con
theorem q9f : zgv Tryz.prog q9e := q99.add q9d.ok
end Go.Vx
end
section
namespace Go.Vx
open Go Go.Vx Go.RowKit
theorem zis {β : At} {H : Heap} {w w' : World} (hR : Rel β H w) (hb : Below w.heap.size w w') : Rel β H w' ∧ Le β H w β H w' := by
 constructor
 ·exact {
   lies := fun g b hg => by
    obtain ⟨cs, e, ro, h1, h2⟩ := hR.lies g b hg
    exact ⟨cs, e, ro, h1, h2.later (Nat.le_refl _) (z2h.refl _ _) fun hn => hb.block _ (hR.blk_lt hg hn)⟩
   tot := hR.tot
   fresh := hR.fresh
   apart := hR.apart
   immw := fun b o c h => (World.cell?_of_block (w := w) (a := ⟨b, o, none⟩) (hb.block _ (hR.imm_lt h))).trans (hR.immw b o c h)
   immm := hR.immm
   glob := hR.glob
   tab := hR.tab.keep (fun _ _ _ h => h) fun g c hc => hb.block _ (hR.imm_lt hc)
   fro := hR.fro }
 ·exact ⟨hb.os, hb.tape, hb.output, hb.size, Nat.le_refl _, z2h.refl _ _, fun _ _ _ h => .inl ⟨rfl, _, _, h⟩, fun _ _ _ h => .inl h, fun k hk _ => hb.block k hk, fun _ h => .inl h⟩
theorem zit {β : At} {H : Heap} {w w' : World} (hR : Rel β H w) (hb : Below w.heap.size w w') {e e' : TypeId} {A n sz : Nat} {xs : List Value} (ho : w'.ownsRow w.heap.size e sz (.slice (some ⟨A, 0, none⟩) n n) n xs)
  {cs : List AV} {ob : AObj} (hob : ob.row = some (cs, e', false)) (hv : z2i H.n β cs xs) (hp : cs.all AV.cell = true) :
  ∃ C, n * sz <= C ∧ Rel (put β H.n (some ⟨A, 0, C, false⟩)) (H.push ob) w' ∧ Le β H w (put β H.n (some ⟨A, 0, C, false⟩)) (H.push ob) w' := by
 obtain ⟨hx, ⟨h, _⟩ | ⟨g, cap, cur, h, hg, hc, hn, hcap, hcs, ht⟩⟩ := ho
 ·cases h
 ·cases h
  have hl := hv.length
  have hsz : cs.length <= cur.size := by rw [hcs]; omega
  refine ⟨cur.size, by rw [hcs]; exact Nat.le_refl _, hR.push ⟨A, 0, cur.size, false⟩ hob (fun g b' hb' hn' => ?_) (fun p c hc' => ?_) (fun k hk _ => hb.block k hk) ?_, Le.alloc hR hb.os hb.tape hb.output hb.size hb.block _ hg ob⟩
  ·have := hR.blk_lt hb' hn'; simp; omega
  ·have := hR.imm_lt hc'; simp at this; omega
  ·refine Lies.new (fr := (0, 0)) ?_ hp hsz _ hc (by simp)
   have : cur.toList.take cs.length = xs := by rw [← ht]; congr 1; rw [ht] at *; omega
   rw [this]
   exact hv.mono (by omega) (z2h.new _ _ _)
theorem ziu {P : Program} {f : FuncId} {D A : Dom} {α : Type} {pa : D.den -> α -> A.den} {F : D.den -> Option α}
  (h : ∀ x y, F x = some y -> zgt P f (D.args x) (D.heap x) (A.one (pa x y)) (A.heap (pa x y))) : zgu P f (tcon D A pa F) := fun x hx => by
 cases e : F x with
 | none => exact absurd e hx
 | some y =>
  have hs : (tcon D A pa F).spec x = .inl (pa x y) := by simp only [tcon, e]
  have := h x y e
  unfold Con.val Con.heap
  rw [hs]
  exact this
end Go.Vx
end
section
namespace Go.Proofs
open Go.Shelf
def Tryz.lays229_ren : Go.Shelf.Ren := ⟨fun | 229 => 87 | n => n, fun | 9 => 9 | 40 => 124 | 31 => 63 | 152 => 146 | 3 => 3 | 0 => 0 | 4 => 4 | 21 => 21 | 154 => 148 | n => n, fun | n => n⟩
theorem Tryz.lays229 : Go.Proofs.Lays.n229 Tryz.prog Tryz.lays229_ren := {
  mixed := by kernel_rfl
  f229 := Tryz.func87.trans (congrArg some (by kernel_rfl))
  t0 := Tryz.underlying0
  a0 := Tryz.isAgg0
  z0 := Tryz.sizeOf0
  v0 := Tryz.zeroValue0
  t3 := Tryz.underlying3
  a3 := Tryz.isAgg3
  z3 := Tryz.sizeOf3
  v3 := Tryz.zeroValue3
  t4 := Tryz.underlying4
  a4 := Tryz.isAgg4
  z4 := Tryz.sizeOf4
  v4 := Tryz.zeroValue4
  t9 := Tryz.underlying9
  a9 := Tryz.isAgg9
  z9 := Tryz.sizeOf9
  v9 := Tryz.zeroValue9
  t21 := Tryz.underlying21
  a21 := Tryz.isAgg21
  z21 := Tryz.sizeOf21
  v21 := Tryz.zeroValue21
  t31 := Tryz.underlying63
  a31 := Tryz.isAgg63
  z31 := Tryz.sizeOf63
  v31 := Tryz.zeroValue63
  t40 := Tryz.underlying124
  a40 := Tryz.isAgg124
  z40 := Tryz.sizeOf124
  v40 := Tryz.zeroValue124
  t152 := Tryz.underlying146
  a152 := Tryz.isAgg146
  z152 := Tryz.sizeOf146
  v152 := Tryz.zeroValue146
  t154 := Tryz.underlying148
  a154 := Tryz.isAgg148
  z154 := Tryz.sizeOf148
  v154 := Tryz.zeroValue148 }
def Tryz.lays153_ren : Go.Shelf.Ren := ⟨fun | 153 => 121 | 152 => 137 | 226 => 138 | 227 => 110 | 228 => 128 | 137 => 125 | 119 => 147 | 224 => 141 | 225 => 140 | 217 => 139 | 266 => 148 | n => n, fun | 9 => 9 | 3 => 3 | 4 => 4 | 5 => 5 | 21 => 21 | 117 => 140 | 116 => 139 | 0 => 0 | 46 => 68 | 124 => 143 | n => n, fun | n => n⟩
theorem Tryz.lays153 : Go.Proofs.Lays.n153 Tryz.prog Tryz.lays153_ren := {
  mixed := by kernel_rfl
  f119 := Tryz.func147.trans (congrArg some (by kernel_rfl))
  f137 := Tryz.func125.trans (congrArg some (by kernel_rfl))
  f152 := Tryz.func137.trans (congrArg some (by kernel_rfl))
  f153 := Tryz.func121.trans (congrArg some (by kernel_rfl))
  f217 := Tryz.func139.trans (congrArg some (by kernel_rfl))
  f224 := Tryz.func141.trans (congrArg some (by kernel_rfl))
  f225 := Tryz.func140.trans (congrArg some (by kernel_rfl))
  f226 := Tryz.func138.trans (congrArg some (by kernel_rfl))
  f227 := Tryz.func110.trans (congrArg some (by kernel_rfl))
  f228 := Tryz.func128.trans (congrArg some (by kernel_rfl))
  f266 := Tryz.func148.trans (congrArg some (by kernel_rfl))
  t0 := Tryz.underlying0
  a0 := Tryz.isAgg0
  z0 := Tryz.sizeOf0
  v0 := Tryz.zeroValue0
  t3 := Tryz.underlying3
  a3 := Tryz.isAgg3
  z3 := Tryz.sizeOf3
  v3 := Tryz.zeroValue3
  t4 := Tryz.underlying4
  a4 := Tryz.isAgg4
  z4 := Tryz.sizeOf4
  v4 := Tryz.zeroValue4
  t5 := Tryz.underlying5
  a5 := Tryz.isAgg5
  z5 := Tryz.sizeOf5
  v5 := Tryz.zeroValue5
  t9 := Tryz.underlying9
  a9 := Tryz.isAgg9
  z9 := Tryz.sizeOf9
  v9 := Tryz.zeroValue9
  t21 := Tryz.underlying21
  a21 := Tryz.isAgg21
  z21 := Tryz.sizeOf21
  v21 := Tryz.zeroValue21
  t46 := Tryz.underlying68
  a46 := Tryz.isAgg68
  z46 := Tryz.sizeOf68
  v46 := Tryz.zeroValue68
  t116 := Tryz.underlying139
  a116 := Tryz.isAgg139
  z116 := Tryz.sizeOf139
  t117 := Tryz.underlying140
  a117 := Tryz.isAgg140
  z117 := Tryz.sizeOf140
  v117 := Tryz.zeroValue140
  t124 := Tryz.underlying143
  a124 := Tryz.isAgg143
  z124 := Tryz.sizeOf143
  v124 := Tryz.zeroValue143 }
def Tryz.lays162_ren : Go.Shelf.Ren := ⟨fun | 162 => 83 | 232 => 109 | 227 => 110 | 234 => 111 | 236 => 112 | 228 => 128 | 271 => 129 | 151 => 130 | 120 => 143 | 197 => 144 | 152 => 137 | 260 => 150 | 137 => 125 | 119 => 147 | 224 => 141 | 225 => 140 | 217 => 139 | 266 => 148 | n => n, fun | 9 => 9 | 4 => 4 | 3 => 3 | 5 => 5 | 117 => 140 | 116 => 139 | 0 => 0 | 124 => 143 | 21 => 21 | 105 => 155 | 46 => 68 | 119 => 163 | 139 => 166 | 138 => 165 | n => n, fun | 3 => 1 | 4 => 2 | n => n⟩
theorem Tryz.lays162 : Go.Proofs.Lays.n162 Tryz.prog Tryz.lays162_ren := {
  mixed := by kernel_rfl
  f119 := Tryz.func147.trans (congrArg some (by kernel_rfl))
  f120 := Tryz.func143.trans (congrArg some (by kernel_rfl))
  f137 := Tryz.func125.trans (congrArg some (by kernel_rfl))
  f151 := Tryz.func130.trans (congrArg some (by kernel_rfl))
  f152 := Tryz.func137.trans (congrArg some (by kernel_rfl))
  f162 := Tryz.func83.trans (congrArg some (by kernel_rfl))
  f197 := Tryz.func144.trans (congrArg some (by kernel_rfl))
  f217 := Tryz.func139.trans (congrArg some (by kernel_rfl))
  f224 := Tryz.func141.trans (congrArg some (by kernel_rfl))
  f225 := Tryz.func140.trans (congrArg some (by kernel_rfl))
  f227 := Tryz.func110.trans (congrArg some (by kernel_rfl))
  f228 := Tryz.func128.trans (congrArg some (by kernel_rfl))
  f232 := Tryz.func109.trans (congrArg some (by kernel_rfl))
  f234 := Tryz.func111.trans (congrArg some (by kernel_rfl))
  f236 := Tryz.func112.trans (congrArg some (by kernel_rfl))
  f260 := Tryz.func150.trans (congrArg some (by kernel_rfl))
  f266 := Tryz.func148.trans (congrArg some (by kernel_rfl))
  f271 := Tryz.func129.trans (congrArg some (by kernel_rfl))
  t0 := Tryz.underlying0
  a0 := Tryz.isAgg0
  z0 := Tryz.sizeOf0
  v0 := Tryz.zeroValue0
  t3 := Tryz.underlying3
  a3 := Tryz.isAgg3
  z3 := Tryz.sizeOf3
  v3 := Tryz.zeroValue3
  t4 := Tryz.underlying4
  a4 := Tryz.isAgg4
  z4 := Tryz.sizeOf4
  v4 := Tryz.zeroValue4
  t5 := Tryz.underlying5
  a5 := Tryz.isAgg5
  z5 := Tryz.sizeOf5
  v5 := Tryz.zeroValue5
  t9 := Tryz.underlying9
  a9 := Tryz.isAgg9
  z9 := Tryz.sizeOf9
  v9 := Tryz.zeroValue9
  t21 := Tryz.underlying21
  a21 := Tryz.isAgg21
  z21 := Tryz.sizeOf21
  v21 := Tryz.zeroValue21
  t46 := Tryz.underlying68
  a46 := Tryz.isAgg68
  z46 := Tryz.sizeOf68
  v46 := Tryz.zeroValue68
  t105 := Tryz.underlying155
  a105 := Tryz.isAgg155
  z105 := Tryz.sizeOf155
  v105 := Tryz.zeroValue155
  t116 := Tryz.underlying139
  a116 := Tryz.isAgg139
  z116 := Tryz.sizeOf139
  t117 := Tryz.underlying140
  a117 := Tryz.isAgg140
  z117 := Tryz.sizeOf140
  v117 := Tryz.zeroValue140
  t119 := Tryz.underlying163
  a119 := Tryz.isAgg163
  z119 := Tryz.sizeOf163
  t124 := Tryz.underlying143
  a124 := Tryz.isAgg143
  z124 := Tryz.sizeOf143
  v124 := Tryz.zeroValue143
  t138 := Tryz.underlying165
  a138 := Tryz.isAgg165
  z138 := Tryz.sizeOf165
  v138 := Tryz.zeroValue165
  t139 := Tryz.underlying166
  a139 := Tryz.isAgg166
  z139 := Tryz.sizeOf166
  v139 := Tryz.zeroValue166
  g3 := by kernel_rfl
  g4 := by kernel_rfl }
end Go.Proofs
end
section
set_option maxRecDepth 1000000
namespace Go.Proofs
def ziv (x:Nat) : Bool := x == 32 || x == 9
set_option maxHeartbeats 1000000 in
theorem Tryz.blank_calls (x:Nat) (W : World) : Calls Tryz.prog 88 #[.int .i32 (x:Int)] W fun e w' => e = .returned (.bool (ziv x)) ∧ Go.RowKit.Below W.heap.size W w' := by
 go_enter Tryz.func88, Tryz.ntmps88
 go_wp2
 ·rename_i h
  have hx : x = 32 := by omega
  subst hx
  go_ret
  exact ⟨rfl, Go.RowKit.Below.refl _ _⟩
 ·rename_i h
  go_ret
  refine ⟨?_, Go.RowKit.Below.refl _ _⟩
  have e1 : ∀ n : Nat, ((x:Int) == (n:Int)) = (x == n) := fun n => by
   by_cases e : x = n
   ·subst e; simp
   ·have f1 : (x == n) = false := by simpa using e
    rw [f1]
    exact beq_false_of_ne (by omega)
  have e32 := e1 32
  have e9 := e1 9
  rw [show ((x:Int) == 32) = (x == 32) from e32, show ((x:Int) == 9) = (x == 9) from e9]
  rfl
end Go.Proofs
namespace Go.Vx
open Go Go.Vx Go.Proofs
namespace qa1
def ascii (s : List UInt8) : Bool := decide (s.length < 4294967281) && s.all fun b => decide (b.toNat < 128)
def D : Dom := ⟨[], (.cat .str .str)⟩
def A : Dom := ⟨[], .int .i64⟩
def sel : List Nat := [0, 1]
def f (s : List UInt8) (p : List UInt8) : Option (Int) := if ascii s && ascii p then some (Lib.indexAny s p) else none
def F (x : D.den) : Option (Int) := f x.2.1 x.2.2
def pa : D.den -> (Int) -> A.den := fun (_, (_, _)) y1 => ((), y1)
def con : Con := tcon D A pa F
theorem ascii_spec {s : List UInt8} {b1 : ByteArray} (h : ascii s = true) (hb : b1.data.toList = s) : b1.size < 4294967281 ∧ ∀ (j:Nat) b, b1.data.toList[j]? = some b -> b.toNat < 128 := by
 unfold ascii at h
 simp only [Bool.and_eq_true, decide_eq_true_eq, List.all_eq_true] at h
 subst hb
 refine ⟨by have := h.1; simpa using this, fun j b hj => h.2 b (List.mem_of_getElem? hj)⟩
theorem ok : zgu Tryz.prog 121 con := ziu fun x y hy => by
 obtain ⟨u, s, p⟩ := x
 intro β w cargs hR ha
 obtain ⟨a, b, rfl, h1, h2⟩ := zir (show z2i _ β [.str true s, .str true p] cargs.toList from ha)
 obtain ⟨b1, rfl, hb⟩ := z2y h1
 obtain ⟨b2, rfl, hb2⟩ := z2y h2
 have hF : f s p = some y := hy
 unfold f at hF
 split at hF
 ·rename_i hc
  cases hF
  simp only [Bool.and_eq_true] at hc
  obtain ⟨q1, q2⟩ := ascii_spec hc.1 hb
  obtain ⟨q3, q4⟩ := ascii_spec hc.2 hb2
  refine (Any.strings_IndexAny_laid Tryz.lays153 (by kernel_rfl) b1 b2 w q1 q3 q2 q4).mono ?_
  rintro e w' ⟨rfl, hbl⟩
  obtain ⟨g1, g2⟩ := zis hR hbl
  rw [hb, hb2]
  exact ⟨β, _, rfl, g1, g2, .int _ _ _⟩
 ·cases hF
end qa1
def qa2 : Book := q9e.add 121 qa1.con
theorem qa3 : zgv Tryz.prog qa2 := q9f.add qa1.ok
namespace q9p
def D : Dom := ⟨[], (.cat .str (.lit (.func (.func 88) [] [])))⟩
def A : Dom := ⟨[.vec .str 9 false], .sl 0 1⟩
def sel : List Nat := [0]
def fieldsOf (s : List UInt8) : List (List UInt8) := (Lib.goFieldsP ziv ⟨s.toArray⟩).map fun b => b.data.toList
def f (s : List UInt8) : Option (List (List UInt8)) := if s.length <= 4294967296 then some (fieldsOf s) else none
def F (x : D.den) : Option (List (List UInt8)) := f x.2.1
def pa : D.den -> (List (List UInt8)) -> A.den := fun (_, (_, _)) y1 => ((y1, ()), ())
def con : Con := tcon D A pa F
theorem strs {N : Nat} {β : At} : ∀ (l : List ByteArray), z2i N β (encL .str (l.map fun b => b.data.toList)) (l.map Value.string)
 | [] => .nil
 | b :: l => .cons _ _ _ _ (.str _ _ _ rfl) (strs l)
theorem ok : zgu Tryz.prog 87 con := ziu fun x y hy => by
 obtain ⟨u, s, v⟩ := x
 intro β w cargs hR ha
 obtain ⟨a, b, rfl, h1, h2⟩ := zir (show z2i _ β [.str true s, .func (.func 88) [] []] cargs.toList from ha)
 obtain ⟨b1, rfl, hb⟩ := z2y h1
 have hF : f s = some y := hy
 unfold f at hF
 split at hF
 ·rename_i hc
  cases hF
  cases h2 with
  | func _ _ _ cs ds i1 i2 =>
   have e1 : cs = #[] := by cases cs with | mk l => cases i1; rfl
   have e2 : ds = #[] := by cases ds with | mk l => cases i2; rfl
   subst e1; subst e2
   have hsz : b1.size <= 4294967296 := by subst hb; simpa using hc
   refine (Any.strings_FieldsFunc_grows Tryz.lays229 88 #[] (enters_of Tryz.func88 (by kernel_rfl) rfl) ziv b1 w hsz (fun W x hx hbl => Tryz.blank_calls x W) (by kernel_rfl) (by kernel_rfl)).mono ?_
   rintro e w' ⟨Ad, rfl, hA, hown, hbl⟩
   have hb1 : (⟨s.toArray⟩ : ByteArray) = b1 := by subst hb; rfl
   have hl : (encL .str (fieldsOf s)).all AV.cell = true := by
    unfold fieldsOf encL
    simp [List.all_flatMap, enc, AV.cell]
   have hv : z2i (D.heap (u, s, v)).n β (encL .str (fieldsOf s)) ((Lib.goFieldsP ziv b1).map Value.string) := by
    unfold fieldsOf
    rw [hb1]
    exact strs _
   obtain ⟨C, hC, g1, g2⟩ := zit hR hbl hown (e' := 9) (ob := .vec .str (fieldsOf s) 9 false) rfl hv hl
   refine ⟨_, _, rfl, g1, g2, ?_⟩
   have hlen : (fieldsOf s).length = (Lib.goFieldsP ziv b1).length := by unfold fieldsOf; rw [hb1]; simp
   show VRel _ _ (.slice _ (some ⟨0, 0, 1, 0⟩) (fieldsOf s).length 1) _
   rw [hlen]
   exact z5l (Nat.le_refl _) hC
 ·cases hF
end q9p
def q9q : Book := qa2.addS 87 (zik 1 88) q9p.con
theorem q9r : zgv Tryz.prog q9q := qa3.addS q9p.ok
namespace qas
def D : Dom := ⟨[], (.cat .str .str)⟩
def A : Dom := ⟨[], .str⟩
def sel : List Nat := [0, 1]
def f (s : List UInt8) (p : List UInt8) : Option (List UInt8) := if (decide (s.length <= 9223372036854775807) && qa1.ascii p) = true then some (Lib.trimRightS s p) else none
def F (x : D.den) : Option (List UInt8) := f x.2.1 x.2.2
def pa : D.den -> (List UInt8) -> A.den := fun (_, (_, _)) y1 => ((), y1)
def con : Con := tcon D A pa F
theorem ok : zgu Tryz.prog 83 con := ziu fun x y hy => by
 obtain ⟨u, s, p⟩ := x
 intro β w cargs hR ha
 obtain ⟨a, b, rfl, h1, h2⟩ := zir (show z2i _ β [.str true s, .str true p] cargs.toList from ha)
 obtain ⟨b1, rfl, hb⟩ := z2y h1
 obtain ⟨b2, rfl, hb2⟩ := z2y h2
 have hF : f s p = some y := hy
 unfold f at hF
 split at hF
 ·rename_i hc
  cases hF
  simp only [Bool.and_eq_true, decide_eq_true_eq] at hc
  obtain ⟨q3, q4⟩ := qa1.ascii_spec hc.2 hb2
  have q1 : b1.size <= 9223372036854775807 := by
   have := hc.1
   subst hb
   simpa using this
  refine (Any.strings_TrimRight_laid Tryz.lays162 (by kernel_rfl) b1 b2 w q1 q3 q4).mono ?_
  rintro e w' ⟨rfl, hbl⟩
  obtain ⟨g1, g2⟩ := zis hR hbl
  rw [hb, hb2]
  exact ⟨β, _, rfl, g1, g2, .str _ _ _ rfl⟩
 ·cases hF
end qas
def qat : Book := q9q.add 83 qas.con
theorem qau : zgv Tryz.prog qat := q9r.add qas.ok
end Go.Vx
end
section
set_option maxRecDepth 1000000
set_option maxHeartbeats 4000000
set_option synthInstance.maxSize 100000
set_option synthInstance.maxHeartbeats 400000
namespace Go.Vx
abbrev Ls := List UInt8
abbrev Lf := List (List UInt8 × List UInt8)
open Go Go.Vx Go.Proofs
namespace q2d
def D : Dom := ⟨[], (.cat (.int .u32) (.int .i64))⟩
def A : Dom := ⟨[.cells (.cat (.int .u32) (.cat (.int .i64) (.cat (.sl 1 1) (.cat .bool (.cat .bool .bool))))) 77 false, .vec .byte 5 false], (.ptr 0 0 0 0)⟩
abbrev Rt := Int × Bool × Bool × Bool × Ls
def t (most:Int) : Tr Rt :=
 .ret (mn2 (mx2 most (0:Int)) (4096:Int), false, false, false, [])
def f (most:Int) := (t most).val
def G (x : D.den) := t x.2.2
def F (x : D.den) := (G x).val
def pa : D.den -> Rt -> A.den := fun (_, (p, _)) (y1, y2, y3, y4, y5) => (((p, (y1, ((), (y2, (y3, y4))))), (y5, ())), ())
def con : Con := tcon D A pa F
theorem ok : zgu Tryz.prog 37 con := zij Base.mixed Base.prog_ok qau (by kernel_rfl) zht.nil 9 (fun _ => rfl) G (fun _ => rfl) fun _ _ _ => (by kernel_rfl)
end q2d
def q2e : Book := qat.add 37 q2d.con
theorem q2f : zgv Tryz.prog q2e := qau.add q2d.ok
namespace q5m
def D : Dom := ⟨[.cells (.cat (.ptr 1 0 0 0) (.cat .str (.cat .str (.cat (.int .i64) (.cat (.sl 3 2) (.cat .bool (.cat (.sl 4 1) (.cat (.sl 5 2) (.cat (.int .i64) (.cat (.int .i64) (.cat (.int .i64) (.cat (.int .i64) (.cat .bool (.cat .bool (.cat (.int .u32) (.cat (.int .i64) (.cat (.int .i64) (.cat (.int .i64) (.cat (.int .i64) (.cat (.int .i64) (.cat (.int .i64) (.cat (.int .i64) (.cat (.int .i64) (.cat .bool (.cat .bool (.cat (.int .i64) (.sl 6 7))))))))))))))))))))))))))) 54 false, .cells (.cat (.int .u32) (.cat (.int .i64) (.cat (.sl 2 1) (.cat .bool (.cat .bool .bool))))) 77 false, .vec .byte 5 false, .vec (.pair .str .str) 87 false, .vec .byte 5 false, .vec (.pair .str .str) 87 false, .vec (.pair .str (.pair .str (.pair (.int .i64) (.pair (.sl (.pair .str .str)) (.pair .bool (.pair (.sl .byte) (.sl (.pair .str .str)))))))) 50 false], (.ptr 0 0 0 0)⟩
def A : Dom := ⟨[.cells (.cat (.ptr 7 0 0 0) (.cat .str (.cat .str (.cat (.int .i64) (.cat (.sl 9 2) (.cat .bool (.cat (.sl 10 1) (.cat (.sl 11 2) (.cat (.int .i64) (.cat (.int .i64) (.cat (.int .i64) (.cat (.int .i64) (.cat .bool (.cat .bool (.cat (.int .u32) (.cat (.int .i64) (.cat (.int .i64) (.cat (.int .i64) (.cat (.int .i64) (.cat (.int .i64) (.cat (.int .i64) (.cat (.int .i64) (.cat (.int .i64) (.cat .bool (.cat .bool (.cat (.int .i64) (.sl 12 7))))))))))))))))))))))))))) 54 false, .cells (.cat (.int .u32) (.cat (.int .i64) (.cat (.sl 2 1) (.cat .bool (.cat .bool .bool))))) 77 false, .vec .byte 5 false, .dead, .dead, .dead, .dead, .cells (.cat (.int .u32) (.cat (.int .i64) (.cat (.sl 8 1) (.cat .bool (.cat .bool .bool))))) 77 false, .vec .byte 5 false, .vec (.pair .str .str) 87 false, .vec .byte 5 false, .vec (.pair .str .str) 87 false, .vec (.pair .str (.pair .str (.pair (.int .i64) (.pair (.sl (.pair .str .str)) (.pair .bool (.pair (.sl .byte) (.sl (.pair .str .str)))))))) 50 false], (.tup .nil)⟩
abbrev Rt := Ls × Ls × Int × Bool × Int × Int × Int × Int × Bool × Bool × Int × Bool × Bool × Bool × Ls × (Lf) × Ls × (Lf) × (List (Ls × Ls × Int × Lf × Bool × Ls × Lf))
def t (Method : Ls) (Target : Ls) (Minor:Int) (Chunked:Bool) (Line:Int) (b : Ls) (Fields_2 : Lf) (Body_2 : Ls) (Trailers_2 : Lf) (out : List (Ls × Ls × Int × Lf × Bool × Ls × Lf)) : Tr Rt :=
 .chk ((0:Nat) + Fields_2.length <= Fields_2.length)<|.chk ((0:Nat) + Body_2.length <= Body_2.length)<|.chk ((0:Nat) + Trailers_2.length <= Trailers_2.length)<|.chk ((1:Nat) <= [(Method, Target, Minor, List.take Fields_2.length (List.drop (0:Nat) Fields_2), Chunked, List.take Body_2.length (List.drop (0:Nat) Body_2), List.take Trailers_2.length (List.drop (0:Nat) Trailers_2))].length)<|.chk ((0:Nat) + out.length <= out.length)<|.chk ((out.length + (1:Nat)) * (120:Nat) <= (140737488355328:Nat))<|.call (q2d.f Line) fun (y1a, y1b, y1c, y1d, y1e) =>
 .okl b.length<|.okl y1e.length<|.chk ((0:Nat) = (0:Nat) ∧ out.length + (1:Nat) = (List.take out.length (List.drop (0:Nat) out) ++ List.take (1:Nat) (List.drop (0:Nat) [(Method, Target, Minor, List.take Fields_2.length (List.drop (0:Nat) Fields_2), Chunked, List.take Body_2.length (List.drop (0:Nat) Body_2), List.take Trailers_2.length (List.drop (0:Nat) Trailers_2))])).length)<|.ret ([], [], 0, false, 0, 0, 0, 0, false, false, y1a, y1b, y1c, y1d, y1e, [], [], [], List.take out.length (List.drop (0:Nat) out) ++ List.take (1:Nat) (List.drop (0:Nat) [(Method, Target, Minor, List.take Fields_2.length (List.drop (0:Nat) Fields_2), Chunked, List.take Body_2.length (List.drop (0:Nat) Body_2), List.take Trailers_2.length (List.drop (0:Nat) Trailers_2))]))
def f (Method : Ls) (Target : Ls) (Minor:Int) (Chunked:Bool) (Line:Int) (b : Ls) (Fields_2 : Lf) (Body_2 : Ls) (Trailers_2 : Lf) (out : List (Ls × Ls × Int × Lf × Bool × Ls × Lf)) := (t Method Target Minor Chunked Line b Fields_2 Body_2 Trailers_2 out).val
def G (x : D.den) := t x.1.1.2.1 x.1.1.2.2.1 x.1.1.2.2.2.1 x.1.1.2.2.2.2.2.1 x.1.1.2.2.2.2.2.2.2.2.2.2.2.2.2.2.2.1 x.1.2.2.1 x.1.2.2.2.1 x.1.2.2.2.2.1 x.1.2.2.2.2.2.1 x.1.2.2.2.2.2.2.1
def F (x : D.den) := (G x).val
def pa : D.den -> Rt -> A.den := fun (((_, (_, (_, (_, (_, (_, (_, (_, (_, (_, (_, (_, (_, (_, (p, (Line, (Fields, (Head, (Body, (Ext, (Trailers, (Wait, (Idle, (Chunked_2, (Old, (err, _)))))))))))))))))))))))))), ((p_2, (most, (_, (pending, (over, bad))))), (b, (_, (_, (_, (_, _))))))), _) (y1, y2, y3, y4, y5, y6, y7, y8, y9, y10, y11, y12, y13, y14, y15, y16, y17, y18, y19) => ((((), (y1, (y2, (y3, ((), (y4, ((), ((), (y5, (y6, (y7, (y8, (y9, (y10, (p, (Line, (Fields, (Head, (Body, (Ext, (Trailers, (Wait, (Idle, (Chunked_2, (Old, (err, ())))))))))))))))))))))))))), ((p_2, (most, ((), (pending, (over, bad))))), (b, ((), ((), ((), ((), ((p, (y11, ((), (y12, (y13, y14))))), (y15, (y16, (y17, (y18, (y19, ()))))))))))))), ())
def con : Con := tcon D A pa F
theorem ok : zgu Tryz.prog 50 con := zij Base.mixed Base.prog_ok q2f (by kernel_rfl) zht.nil 9 (fun _ => rfl) G (fun _ => rfl) fun _ _ _ => (by kernel_rfl)
end q5m
def q5n : Book := q2e.add 50 q5m.con
theorem q5o : zgv Tryz.prog q5n := q2f.add q5m.ok
namespace q5j
def D : Dom := ⟨[.cells (.cat (.ptr 1 0 0 0) (.cat .str (.cat .str (.cat (.int .i64) (.cat (.sl 3 2) (.cat .bool (.cat (.sl 4 1) (.cat (.sl 5 2) (.cat (.int .i64) (.cat (.int .i64) (.cat (.int .i64) (.cat (.int .i64) (.cat .bool (.cat .bool (.cat (.int .u32) (.cat (.int .i64) (.cat (.int .i64) (.cat (.int .i64) (.cat (.int .i64) (.cat (.int .i64) (.cat (.int .i64) (.cat (.int .i64) (.cat (.int .i64) (.cat .bool (.cat .bool (.cat (.int .i64) (.sl 6 7))))))))))))))))))))))))))) 54 false, .cells (.cat (.int .u32) (.cat (.int .i64) (.cat (.sl 2 1) (.cat .bool (.cat .bool .bool))))) 77 false, .vec .byte 5 false, .vec (.pair .str .str) 87 false, .vec .byte 5 false, .vec (.pair .str .str) 87 false, .vec (.pair .str (.pair .str (.pair (.int .i64) (.pair (.sl (.pair .str .str)) (.pair .bool (.pair (.sl .byte) (.sl (.pair .str .str)))))))) 50 false], (.cat (.ptr 0 0 0 0) (.int .i64))⟩
def A : Dom := ⟨[.cells (.cat (.ptr 7 0 0 0) (.cat .str (.cat .str (.cat (.int .i64) (.cat (.sl 3 2) (.cat .bool (.cat (.sl 4 1) (.cat (.sl 5 2) (.cat (.int .i64) (.cat (.int .i64) (.cat (.int .i64) (.cat (.int .i64) (.cat .bool (.cat .bool (.cat (.int .u32) (.cat (.int .i64) (.cat (.int .i64) (.cat (.int .i64) (.cat (.int .i64) (.cat (.int .i64) (.cat (.int .i64) (.cat (.int .i64) (.cat (.int .i64) (.cat .bool (.cat .bool (.cat (.int .i64) (.sl 6 7))))))))))))))))))))))))))) 54 false, .cells (.cat (.int .u32) (.cat (.int .i64) (.cat (.sl 2 1) (.cat .bool (.cat .bool .bool))))) 77 false, .vec .byte 5 false, .vec (.pair .str .str) 87 false, .vec .byte 5 false, .vec (.pair .str .str) 87 false, .vec (.pair .str (.pair .str (.pair (.int .i64) (.pair (.sl (.pair .str .str)) (.pair .bool (.pair (.sl .byte) (.sl (.pair .str .str)))))))) 50 false, .cells (.cat (.int .u32) (.cat (.int .i64) (.cat (.sl 8 1) (.cat .bool (.cat .bool .bool))))) 77 false, .vec .byte 5 false], (.tup .nil)⟩
abbrev Rt := Int × Bool × Bool × Bool × Ls
def t (Line:Int) (b : Ls) (Fields_2 : Lf) (Body_2 : Ls) (Trailers_2 : Lf) (out : List (Ls × Ls × Int × Lf × Bool × Ls × Lf)) (stage_2:Int) : Tr Rt :=
 .br (stage_2 == (5:Int)) (.call (q2d.f (0:Int)) fun (y1a, y1b, y1c, y1d, y1e) =>
  .okl Fields_2.length<|.okl Body_2.length<|.okl Trailers_2.length<|.okl out.length<|.okl b.length<|.okl y1e.length<|.ret (y1a, y1b, y1c, y1d, y1e))
 (.call (q2d.f Line) fun (y2a, y2b, y2c, y2d, y2e) =>
  .okl Fields_2.length<|.okl Body_2.length<|.okl Trailers_2.length<|.okl out.length<|.okl b.length<|.okl y2e.length<|.ret (y2a, y2b, y2c, y2d, y2e))
def f (Line:Int) (b : Ls) (Fields_2 : Lf) (Body_2 : Ls) (Trailers_2 : Lf) (out : List (Ls × Ls × Int × Lf × Bool × Ls × Lf)) (stage_2:Int) := (t Line b Fields_2 Body_2 Trailers_2 out stage_2).val
def G (x : D.den) := t x.1.1.2.2.2.2.2.2.2.2.2.2.2.2.2.2.2.1 x.1.2.2.1 x.1.2.2.2.1 x.1.2.2.2.2.1 x.1.2.2.2.2.2.1 x.1.2.2.2.2.2.2.1 x.2.2
def F (x : D.den) := (G x).val
def pa : D.den -> Rt -> A.den := fun (((_, (Method, (Target, (Minor, (_, (Chunked, (_, (_, (_, (lines, (head, (need, (begun, (waits, (p, (Line, (Fields, (Head, (Body, (Ext, (Trailers, (Wait, (Idle, (Chunked_2, (Old, (err, _)))))))))))))))))))))))))), ((p_2, (most, (_, (pending, (over, bad))))), (b, (Fields_2, (Body_2, (Trailers_2, (out, _))))))), (_, stage_2)) (y1, y2, y3, y4, y5) => ((((), (Method, (Target, (Minor, ((), (Chunked, ((), ((), (stage_2, (lines, (head, (need, (begun, (waits, (p, (Line, (Fields, (Head, (Body, (Ext, (Trailers, (Wait, (Idle, (Chunked_2, (Old, (err, ())))))))))))))))))))))))))), ((p_2, (most, ((), (pending, (over, bad))))), (b, (Fields_2, (Body_2, (Trailers_2, (out, ((p, (y1, ((), (y2, (y3, y4))))), (y5, ()))))))))), ())
def con : Con := tcon D A pa F
theorem ok : zgu Tryz.prog 51 con := zij Base.mixed Base.prog_ok q5o (by kernel_rfl) zht.nil 9 (fun _ => rfl) G (fun _ => rfl) fun _ _ _ => (by kernel_rfl)
end q5j
def q5k : Book := q5n.add 51 q5j.con
theorem q5l : zgv Tryz.prog q5k := q5o.add q5j.ok
namespace q4g
def D : Dom := ⟨[.cells (.cat (.ptr 1 0 0 0) (.cat .str (.cat .str (.cat (.int .i64) (.cat (.sl 3 2) (.cat .bool (.cat (.sl 4 1) (.cat (.sl 5 2) (.cat (.int .i64) (.cat (.int .i64) (.cat (.int .i64) (.cat (.int .i64) (.cat .bool (.cat .bool (.cat (.int .u32) (.cat (.int .i64) (.cat (.int .i64) (.cat (.int .i64) (.cat (.int .i64) (.cat (.int .i64) (.cat (.int .i64) (.cat (.int .i64) (.cat (.int .i64) (.cat .bool (.cat .bool (.cat (.int .i64) (.sl 6 7))))))))))))))))))))))))))) 54 false, .cells (.cat (.int .u32) (.cat (.int .i64) (.cat (.sl 2 1) (.cat .bool (.cat .bool .bool))))) 77 false, .vec .byte 5 false, .vec (.pair .str .str) 87 false, .vec .byte 5 false, .vec (.pair .str .str) 87 false, .vec (.pair .str (.pair .str (.pair (.int .i64) (.pair (.sl (.pair .str .str)) (.pair .bool (.pair (.sl .byte) (.sl (.pair .str .str)))))))) 50 false], (.cat (.ptr 0 0 0 0) (.int .u8))⟩
def A : Dom := ⟨[.cells (.cat (.ptr 7 0 0 0) (.cat .str (.cat .str (.cat (.int .i64) (.cat (.sl 9 2) (.cat .bool (.cat (.sl 10 1) (.cat (.sl 11 2) (.cat (.int .i64) (.cat (.int .i64) (.cat (.int .i64) (.cat (.int .i64) (.cat .bool (.cat .bool (.cat (.int .u32) (.cat (.int .i64) (.cat (.int .i64) (.cat (.int .i64) (.cat (.int .i64) (.cat (.int .i64) (.cat (.int .i64) (.cat (.int .i64) (.cat (.int .i64) (.cat .bool (.cat .bool (.cat (.int .i64) (.sl 12 7))))))))))))))))))))))))))) 54 false, .dead, .dead, .dead, .dead, .dead, .dead, .cells (.cat (.int .u32) (.cat (.int .i64) (.cat (.sl 8 1) (.cat .bool (.cat .bool .bool))))) 77 false, .vec .byte 5 false, .vec (.pair .str .str) 87 false, .vec .byte 5 false, .vec (.pair .str .str) 87 false, .vec (.pair .str (.pair .str (.pair (.int .i64) (.pair (.sl (.pair .str .str)) (.pair .bool (.pair (.sl .byte) (.sl (.pair .str .str)))))))) 50 false], (.tup .nil)⟩
abbrev Rt := Ls × Ls × Int × Bool × Int × Int × Int × Int × Bool × Bool × Int × Int × Bool × Bool × Bool × Ls × (Lf) × Ls × (Lf) × (List (Ls × Ls × Int × Lf × Bool × Ls × Lf))
def t (Method : Ls) (Target : Ls) (Minor:Int) (Chunked:Bool) (stage:Int) (lines:Int) (head:Int) (need:Int) (begun:Bool) (p:Int) (Line:Int) (p_2:Int) (most:Int) (pending:Bool) (over:Bool) (bad:Bool) (b : Ls) (Fields_2 : Lf) (Body_2 : Ls) (Trailers_2 : Lf) (out : List (Ls × Ls × Int × Lf × Bool × Ls × Lf)) (c:Int) : Tr Rt :=
 .chk ((0:Nat) + Body_2.length <= Body_2.length)<|.chk ((Body_2.length + (1:Nat)) * (1:Nat) <= (140737488355328:Nat))<|.chk ((0:Int) <= c ∧ c < (256:Int))<|.br (decide (IntKind.i64.wrap (need - (1:Int)) > (0:Int))) (.okl b.length<|.okl Fields_2.length<|.chk ((0:Nat) = (0:Nat) ∧ Body_2.length + (1:Nat) = (List.take Body_2.length (List.drop (0:Nat) Body_2) ++ [UInt8.ofNat c.toNat]).length)<|.okl Trailers_2.length<|.okl out.length<|.ret (Method, Target, Minor, Chunked, stage, lines, head, IntKind.i64.wrap (need - (1:Int)), begun, false, p_2, most, pending, over, bad, b, Fields_2, List.take Body_2.length (List.drop (0:Nat) Body_2) ++ [UInt8.ofNat c.toNat], Trailers_2, out))
 (.br (stage == (2:Int)) (.okl b.length<|.okl Fields_2.length<|.chk ((0:Nat) = (0:Nat) ∧ Body_2.length + (1:Nat) = (List.take Body_2.length (List.drop (0:Nat) Body_2) ++ [UInt8.ofNat c.toNat]).length)<|.okl Trailers_2.length<|.okl out.length<|.call (q5m.f Method Target Minor Chunked Line b Fields_2 (List.take Body_2.length (List.drop (0:Nat) Body_2) ++ [UInt8.ofNat c.toNat]) Trailers_2 out) fun (y1a, y1b, y1c, y1d, y1e, y1f, y1g, y1h, y1i, y1j, y1k, y1l, y1m, y1n, y1o, y1p, y1q, y1r, y1s) =>
  .okl y1o.length<|.okl y1p.length<|.okl y1q.length<|.okl y1r.length<|.okl y1s.length<|.ret (y1a, y1b, y1c, y1d, y1e, y1f, y1g, y1h, y1i, y1j, p, y1k, y1l, y1m, y1n, y1o, y1p, y1q, y1r, y1s))
  (.okl b.length<|.okl Fields_2.length<|.chk ((0:Nat) = (0:Nat) ∧ Body_2.length + (1:Nat) = (List.take Body_2.length (List.drop (0:Nat) Body_2) ++ [UInt8.ofNat c.toNat]).length)<|.okl Trailers_2.length<|.okl out.length<|.call (q5j.f Line b Fields_2 (List.take Body_2.length (List.drop (0:Nat) Body_2) ++ [UInt8.ofNat c.toNat]) Trailers_2 out (5:Int)) fun (y2a, y2b, y2c, y2d, y2e) =>
  .okl y2e.length<|.okl Fields_2.length<|.okl ((List.take Body_2.length (List.drop (0:Nat) Body_2) ++ [UInt8.ofNat c.toNat]).length)<|.okl Trailers_2.length<|.okl out.length<|.ret (Method, Target, Minor, Chunked, 5, lines, head, IntKind.i64.wrap (need - (1:Int)), begun, false, p, y2a, y2b, y2c, y2d, y2e, Fields_2, List.take Body_2.length (List.drop (0:Nat) Body_2) ++ [UInt8.ofNat c.toNat], Trailers_2, out)))
def f (Method : Ls) (Target : Ls) (Minor:Int) (Chunked:Bool) (stage:Int) (lines:Int) (head:Int) (need:Int) (begun:Bool) (p:Int) (Line:Int) (p_2:Int) (most:Int) (pending:Bool) (over:Bool) (bad:Bool) (b : Ls) (Fields_2 : Lf) (Body_2 : Ls) (Trailers_2 : Lf) (out : List (Ls × Ls × Int × Lf × Bool × Ls × Lf)) (c:Int) := (t Method Target Minor Chunked stage lines head need begun p Line p_2 most pending over bad b Fields_2 Body_2 Trailers_2 out c).val
def G (x : D.den) := t x.1.1.2.1 x.1.1.2.2.1 x.1.1.2.2.2.1 x.1.1.2.2.2.2.2.1 x.1.1.2.2.2.2.2.2.2.2.1 x.1.1.2.2.2.2.2.2.2.2.2.1 x.1.1.2.2.2.2.2.2.2.2.2.2.1 x.1.1.2.2.2.2.2.2.2.2.2.2.2.1 x.1.1.2.2.2.2.2.2.2.2.2.2.2.2.1 x.1.1.2.2.2.2.2.2.2.2.2.2.2.2.2.2.1 x.1.1.2.2.2.2.2.2.2.2.2.2.2.2.2.2.2.1 x.1.2.1.1 x.1.2.1.2.1 x.1.2.1.2.2.2.1 x.1.2.1.2.2.2.2.1 x.1.2.1.2.2.2.2.2 x.1.2.2.1 x.1.2.2.2.1 x.1.2.2.2.2.1 x.1.2.2.2.2.2.1 x.1.2.2.2.2.2.2.1 x.2.2
def F (x : D.den) := (G x).val
def pa : D.den -> Rt -> A.den := fun (((_, (_, (_, (_, (_, (_, (_, (_, (_, (_, (_, (_, (_, (_, (p, (Line, (Fields, (Head, (Body, (Ext, (Trailers, (Wait, (Idle, (Chunked_2, (Old, (err, _)))))))))))))))))))))))))), ((_, (_, (_, (_, (_, _))))), (_, (_, (_, (_, (_, _))))))), (_, _)) (y1, y2, y3, y4, y5, y6, y7, y8, y9, y10, y11, y12, y13, y14, y15, y16, y17, y18, y19, y20) => ((((), (y1, (y2, (y3, ((), (y4, ((), ((), (y5, (y6, (y7, (y8, (y9, (y10, (p, (Line, (Fields, (Head, (Body, (Ext, (Trailers, (Wait, (Idle, (Chunked_2, (Old, (err, ())))))))))))))))))))))))))), ((), ((), ((), ((), ((), ((), ((y11, (y12, ((), (y13, (y14, y15))))), (y16, (y17, (y18, (y19, (y20, ()))))))))))))), ())
def con : Con := tcon D A pa F
theorem ok : zgu Tryz.prog 38 con := zij Base.mixed Base.prog_ok q5l (by kernel_rfl) zht.nil 9 (fun _ => rfl) G (fun _ => rfl) fun _ _ _ => (by kernel_rfl)
end q4g
def q4h : Book := q5k.add 38 q4g.con
theorem q4i : zgv Tryz.prog q4h := q5l.add q4g.ok
namespace q4s
def D : Dom := q5j.D
def A : Dom := ⟨[.cells (.cat (.ptr 1 0 0 0) (.cat .str (.cat .str (.cat (.int .i64) (.cat (.sl 3 2) (.cat .bool (.cat (.sl 4 1) (.cat (.sl 5 2) (.cat (.int .i64) (.cat (.int .i64) (.cat (.int .i64) (.cat (.int .i64) (.cat .bool (.cat .bool (.cat (.int .u32) (.cat (.int .i64) (.cat (.int .i64) (.cat (.int .i64) (.cat (.int .i64) (.cat (.int .i64) (.cat (.int .i64) (.cat (.int .i64) (.cat (.int .i64) (.cat .bool (.cat .bool (.cat (.int .i64) (.sl 6 7))))))))))))))))))))))))))) 54 false, .cells (.cat (.int .u32) (.cat (.int .i64) (.cat (.sl 2 1) (.cat .bool (.cat .bool .bool))))) 77 false, .vec .byte 5 false, .vec (.pair .str .str) 87 false, .vec .byte 5 false, .vec (.pair .str .str) 87 false, .vec (.pair .str (.pair .str (.pair (.int .i64) (.pair (.sl (.pair .str .str)) (.pair .bool (.pair (.sl .byte) (.sl (.pair .str .str)))))))) 50 false], (.tup .nil)⟩
def t (b : Ls) (Fields_2 : Lf) (Body_2 : Ls) (Trailers_2 : Lf) (out : List (Ls × Ls × Int × Lf × Bool × Ls × Lf)) : Tr (Unit) :=
 .okl Fields_2.length<|.okl Body_2.length<|.okl Trailers_2.length<|.okl out.length<|.okl b.length<|.ret ()
def f (b : Ls) (Fields_2 : Lf) (Body_2 : Ls) (Trailers_2 : Lf) (out : List (Ls × Ls × Int × Lf × Bool × Ls × Lf)) := (t b Fields_2 Body_2 Trailers_2 out).val
def G (x : D.den) := t x.1.2.2.1 x.1.2.2.2.1 x.1.2.2.2.2.1 x.1.2.2.2.2.2.1 x.1.2.2.2.2.2.2.1
def F (x : D.den) := (G x).val
def pa : D.den -> (Unit) -> A.den := fun (((_, (Method, (Target, (Minor, (_, (Chunked, (_, (_, (stage, (lines, (head, (need, (begun, (waits, (p, (Line, (Fields, (Head, (Body, (Ext, (Trailers, (Wait, (Idle, (Chunked_2, (Old, (_, _)))))))))))))))))))))))))), ((p_2, (most, (_, (pending, (over, bad))))), (b, (Fields_2, (Body_2, (Trailers_2, (out, _))))))), (_, e)) _ => ((((), (Method, (Target, (Minor, ((), (Chunked, ((), ((), (stage, (lines, (head, (need, (begun, (waits, (p, (Line, (Fields, (Head, (Body, (Ext, (Trailers, (Wait, (Idle, (Chunked_2, (Old, (e, ())))))))))))))))))))))))))), ((p_2, (most, ((), (pending, (over, bad))))), (b, (Fields_2, (Body_2, (Trailers_2, (out, ()))))))), ())
def con : Con := tcon D A pa F
theorem ok : zgu Tryz.prog 44 con := zij Base.mixed Base.prog_ok q4i (by kernel_rfl) zht.nil 9 (fun _ => rfl) G (fun _ => rfl) fun _ _ _ => (by kernel_rfl)
end q4s
def q4t : Book := q4h.add 44 q4s.con
theorem q4u : zgv Tryz.prog q4t := q4i.add q4s.ok
namespace q4m
def D : Dom := q5m.D
def A : Dom := ⟨[.cells (.cat (.ptr 1 0 0 0) (.cat .str (.cat .str (.cat (.int .i64) (.cat (.sl 3 2) (.cat .bool (.cat (.sl 4 1) (.cat (.sl 5 2) (.cat (.int .i64) (.cat (.int .i64) (.cat (.int .i64) (.cat (.int .i64) (.cat .bool (.cat .bool (.cat (.int .u32) (.cat (.int .i64) (.cat (.int .i64) (.cat (.int .i64) (.cat (.int .i64) (.cat (.int .i64) (.cat (.int .i64) (.cat (.int .i64) (.cat (.int .i64) (.cat .bool (.cat .bool (.cat (.int .i64) (.sl 6 7))))))))))))))))))))))))))) 54 false, .cells (.cat (.int .u32) (.cat (.int .i64) (.cat (.sl 2 1) (.cat .bool (.cat .bool .bool))))) 77 false, .vec .byte 5 false, .vec (.pair .str .str) 87 false, .vec .byte 5 false, .vec (.pair .str .str) 87 false, .vec (.pair .str (.pair .str (.pair (.int .i64) (.pair (.sl (.pair .str .str)) (.pair .bool (.pair (.sl .byte) (.sl (.pair .str .str)))))))) 50 false], .bool⟩
abbrev Rt := Int × Int × Bool
def t (stage:Int) (head:Int) (Head:Int) (err:Int) (b : Ls) (Fields_2 : Lf) (Body_2 : Ls) (Trailers_2 : Lf) (out : List (Ls × Ls × Int × Lf × Bool × Ls × Lf)) : Tr Rt :=
 .br (stage != (3:Int)) (.br (!stage != (5:Int)) (.okl Fields_2.length<|.okl Body_2.length<|.okl Trailers_2.length<|.okl out.length<|.okl b.length<|.ret (head, err, true))
  (.br (decide (IntKind.i64.wrap (head + (1:Int)) > Head)) (.okl b.length<|.okl Fields_2.length<|.okl Body_2.length<|.okl Trailers_2.length<|.okl out.length<|.call (q4s.f b Fields_2 Body_2 Trailers_2 out) fun _ =>
   .okl Fields_2.length<|.okl Body_2.length<|.okl Trailers_2.length<|.okl out.length<|.okl b.length<|.ret (IntKind.i64.wrap (head + (1:Int)), 431, false))
  (.okl Fields_2.length<|.okl Body_2.length<|.okl Trailers_2.length<|.okl out.length<|.okl b.length<|.ret (IntKind.i64.wrap (head + (1:Int)), err, err == (0:Int)))))
 (.okl Fields_2.length<|.okl Body_2.length<|.okl Trailers_2.length<|.okl out.length<|.okl b.length<|.ret (head, err, true))
def f (stage:Int) (head:Int) (Head:Int) (err:Int) (b : Ls) (Fields_2 : Lf) (Body_2 : Ls) (Trailers_2 : Lf) (out : List (Ls × Ls × Int × Lf × Bool × Ls × Lf)) := (t stage head Head err b Fields_2 Body_2 Trailers_2 out).val
def G (x : D.den) := t x.1.1.2.2.2.2.2.2.2.2.1 x.1.1.2.2.2.2.2.2.2.2.2.2.1 x.1.1.2.2.2.2.2.2.2.2.2.2.2.2.2.2.2.2.2.1 x.1.1.2.2.2.2.2.2.2.2.2.2.2.2.2.2.2.2.2.2.2.2.2.2.2.2.2.1 x.1.2.2.1 x.1.2.2.2.1 x.1.2.2.2.2.1 x.1.2.2.2.2.2.1 x.1.2.2.2.2.2.2.1
def F (x : D.den) := (G x).val
def pa : D.den -> Rt -> A.den := fun (((_, (Method, (Target, (Minor, (_, (Chunked, (_, (_, (stage, (lines, (_, (need, (begun, (waits, (p, (Line, (Fields, (Head, (Body, (Ext, (Trailers, (Wait, (Idle, (Chunked_2, (Old, (_, _)))))))))))))))))))))))))), ((p_2, (most, (_, (pending, (over, bad))))), (b, (Fields_2, (Body_2, (Trailers_2, (out, _))))))), _) (y1, y2, y3) => ((((), (Method, (Target, (Minor, ((), (Chunked, ((), ((), (stage, (lines, (y1, (need, (begun, (waits, (p, (Line, (Fields, (Head, (Body, (Ext, (Trailers, (Wait, (Idle, (Chunked_2, (Old, (y2, ())))))))))))))))))))))))))), ((p_2, (most, ((), (pending, (over, bad))))), (b, (Fields_2, (Body_2, (Trailers_2, (out, ()))))))), y3)
def con : Con := tcon D A pa F
theorem ok : zgu Tryz.prog 39 con := zij Base.mixed Base.prog_ok q4u (by kernel_rfl) zht.nil 9 (fun _ => rfl) G (fun _ => rfl) fun _ _ _ => (by kernel_rfl)
end q4m
def q4n : Book := q4t.add 39 q4m.con
theorem q4o : zgv Tryz.prog q4n := q4u.add q4m.ok
namespace q2p
def D : Dom := ⟨[.cells (.cat (.int .u32) (.cat (.int .i64) (.cat (.sl 1 1) (.cat .bool (.cat .bool .bool))))) 77 false, .vec .byte 5 false], (.cat (.ptr 0 0 0 0) (.int .i64))⟩
def A : Dom := ⟨[.cells (.cat (.int .u32) (.cat (.int .i64) (.cat (.sl 1 1) (.cat .bool (.cat .bool .bool))))) 77 false, .vec .byte 5 false], (.int .i64)⟩
def t (b : Ls) : Tr (Bool × Bool) :=
 .okl b.length<|.ret (false, true)
def f (b : Ls) := (t b).val
def G (x : D.den) := t x.1.2.1
def F (x : D.den) := (G x).val
def pa : D.den -> (Bool × Bool) -> A.den := fun (((p, (most, (_, (_, (_, bad))))), (b, _)), (_, how)) (y1, y2) => (((p, (most, ((), (y1, (y2, bad))))), (b, ())), how)
def con : Con := tcon D A pa F
theorem ok : zgu Tryz.prog 52 con := zij Base.mixed Base.prog_ok q4o (by kernel_rfl) zht.nil 9 (fun _ => rfl) G (fun _ => rfl) fun _ _ _ => (by kernel_rfl)
end q2p
def q2q : Book := q4n.add 52 q2p.con
theorem q2r : zgv Tryz.prog q2q := q4o.add q2p.ok
namespace q5v
def D : Dom := ⟨[], (.int .i64)⟩
def A : Dom := ⟨[], .bool⟩
def t (clause:Int) : Tr (Bool) :=
 .br (decide (clause ≥ (0:Int))) (.ret (decide (clause < (30:Int))))
 (.ret false)
def f (clause:Int) := (t clause).val
def G (x : D.den) := t x.2
def F (x : D.den) := (G x).val
def pa : D.den -> (Bool) -> A.den := fun (_, _) y1 => ((), y1)
def con : Con := tcon D A pa F
theorem ok : zgu Tryz.prog 62 con := zij Base.mixed Base.prog_ok q2r (by kernel_rfl) zht.nil 9 (fun _ => rfl) G (fun _ => rfl) fun _ _ _ => (by kernel_rfl)
end q5v
def q5w : Book := q2q.add 62 q5v.con
theorem q5x : zgv Tryz.prog q5w := q2r.add q5v.ok
namespace q5p
def D : Dom := ⟨[], (.cat (.int .u32) (.int .i64))⟩
def A : Dom := ⟨[], .bool⟩
def t (p:Int) (clause:Int) : Tr (Bool) :=
 .call (q5v.f clause) fun y1 =>
 .br y1 (.chk (¬clause < (0:Int))<|.ret (IntKind.u32.wrap (↑(BitVec.ofInt IntKind.u32.bits (p.fdiv ((2:Int) ^ min clause.toNat IntKind.u32.bits)) &&& BitVec.ofInt IntKind.u32.bits (1:Int)).toNat:Int) == (1:Int)))
 (.ret false)
def f (p:Int) (clause:Int) := (t p clause).val
def G (x : D.den) := t x.2.1 x.2.2
def F (x : D.den) := (G x).val
def pa : D.den -> (Bool) -> A.den := fun (_, (_, _)) y1 => ((), y1)
def con : Con := tcon D A pa F
theorem ok : zgu Tryz.prog 53 con := zij Base.mixed Base.prog_ok q5x (by kernel_rfl) zht.nil 9 (fun _ => rfl) G (fun _ => rfl) fun _ _ _ => (by kernel_rfl)
end q5p
def q5q : Book := q5w.add 53 q5p.con
theorem q5r : zgv Tryz.prog q5q := q5x.add q5p.ok
end Go.Vx
end
section
set_option maxRecDepth 1000000
set_option maxHeartbeats 4000000
set_option synthInstance.maxSize 100000
set_option synthInstance.maxHeartbeats 400000
namespace Go.Vx
open Go Go.Vx Go.Proofs
namespace q2s
def D : Dom := q2p.D
def A : Dom := q2p.A
def t (b : Ls) : Tr (Bool × Bool) :=
 .okl b.length<|.ret (false, true)
def f (b : Ls) := (t b).val
def G (x : D.den) := t x.1.2.1
def F (x : D.den) := (G x).val
def pa : D.den -> (Bool × Bool) -> A.den := fun (((p, (most, (_, (_, (over, _))))), (b, _)), (_, how)) (y1, y2) => (((p, (most, ((), (y1, (over, y2))))), (b, ())), how)
def con : Con := tcon D A pa F
theorem ok : zgu Tryz.prog 54 con := zij Base.mixed Base.prog_ok q5r (by kernel_rfl) zht.nil 9 (fun _ => rfl) G (fun _ => rfl) fun _ _ _ => (by kernel_rfl)
end q2s
def q2t : Book := q5q.add 54 q2s.con
theorem q2u : zgv Tryz.prog q2t := q5r.add q2s.ok
namespace q2g
def D : Dom := ⟨[.cells (.cat (.int .u32) (.cat (.int .i64) (.cat (.sl 1 1) (.cat .bool (.cat .bool .bool))))) 77 false, .vec .byte 5 false], (.cat (.ptr 0 0 0 0) (.int .u8))⟩
def A : Dom := ⟨[.cells (.cat (.int .u32) (.cat (.int .i64) (.cat (.sl 2 1) (.cat .bool (.cat .bool .bool))))) 77 false, .dead, .vec .byte 5 false], (.int .i64)⟩
abbrev Rt := Bool × Bool × Bool × Ls × Int
def t (p:Int) (most:Int) (pending:Bool) (over:Bool) (bad:Bool) (b : Ls) (c:Int) : Tr Rt :=
 .br bad (.okl b.length<|.ret (pending, over, bad, b, (3:Int)))
 (.br over (.br pending (.br (c == (10:Int)) (.call (q2p.f []) fun (y1a, y1b) =>
   .okl ((0:Nat))<|.ret (y1a, y1b, bad, [], (1:Int)))
   (.br pending (.call (q5p.f p (2:Int)) fun y2 =>
    .br y2 (.call (q2p.f []) fun (y3a, y3b) =>
    .okl ((0:Nat))<|.ret (y3a, y3b, bad, [], (2:Int)))
    (.br pending (.call (q2s.f []) fun (y4a, y4b) =>
     .okl ((0:Nat))<|.ret (y4a, false, y4b, [], (3:Int)))
    (.br (c == (13:Int)) (.ret (true, false, bad, [], (0:Int)))
     (.br (c == (10:Int)) (.call (q5p.f p (1:Int)) fun y5 =>
      .br y5 (.call (q2p.f []) fun (y6a, y6b) =>
      .okl ((0:Nat))<|.ret (y6a, y6b, bad, [], (1:Int)))
      (.br (c == (10:Int)) (.call (q2s.f []) fun (y7a, y7b) =>
       .okl ((0:Nat))<|.ret (y7a, false, y7b, [], (3:Int)))
      (.br (decide ((0:Int) ≥ most)) (.call (q2s.f []) fun (y8a, y8b) =>
       .okl ((0:Nat))<|.ret (y8a, false, y8b, [], (4:Int)))
       (.chk ((0:Int) <= c ∧ c < (256:Int))<|.ret (pending, false, bad, [UInt8.ofNat c.toNat], (0:Int))))))
     (.br (c == (10:Int)) (.call (q2s.f []) fun (y9a, y9b) =>
      .okl ((0:Nat))<|.ret (y9a, false, y9b, [], (3:Int)))
      (.br (decide ((0:Int) ≥ most)) (.call (q2s.f []) fun (y10a, y10b) =>
       .okl ((0:Nat))<|.ret (y10a, false, y10b, [], (4:Int)))
      (.chk ((0:Int) <= c ∧ c < (256:Int))<|.ret (pending, false, bad, [UInt8.ofNat c.toNat], (0:Int)))))))))
   (.br pending (.call (q2s.f []) fun (y11a, y11b) =>
    .okl ((0:Nat))<|.ret (y11a, false, y11b, [], (3:Int)))
    (.br (c == (13:Int)) (.ret (true, false, bad, [], (0:Int)))
    (.br (c == (10:Int)) (.call (q5p.f p (1:Int)) fun y12 =>
     .br y12 (.call (q2p.f []) fun (y13a, y13b) =>
      .okl ((0:Nat))<|.ret (y13a, y13b, bad, [], (1:Int)))
     (.br (c == (10:Int)) (.call (q2s.f []) fun (y14a, y14b) =>
      .okl ((0:Nat))<|.ret (y14a, false, y14b, [], (3:Int)))
      (.br (decide ((0:Int) ≥ most)) (.call (q2s.f []) fun (y15a, y15b) =>
       .okl ((0:Nat))<|.ret (y15a, false, y15b, [], (4:Int)))
      (.chk ((0:Int) <= c ∧ c < (256:Int))<|.ret (pending, false, bad, [UInt8.ofNat c.toNat], (0:Int))))))
     (.br (c == (10:Int)) (.call (q2s.f []) fun (y16a, y16b) =>
      .okl ((0:Nat))<|.ret (y16a, false, y16b, [], (3:Int)))
     (.br (decide ((0:Int) ≥ most)) (.call (q2s.f []) fun (y17a, y17b) =>
      .okl ((0:Nat))<|.ret (y17a, false, y17b, [], (4:Int)))
      (.chk ((0:Int) <= c ∧ c < (256:Int))<|.ret (pending, false, bad, [UInt8.ofNat c.toNat], (0:Int))))))))))
  (.br pending (.call (q5p.f p (2:Int)) fun y18 =>
   .br y18 (.call (q2p.f []) fun (y19a, y19b) =>
    .okl ((0:Nat))<|.ret (y19a, y19b, bad, [], (2:Int)))
   (.br pending (.call (q2s.f []) fun (y20a, y20b) =>
    .okl ((0:Nat))<|.ret (y20a, false, y20b, [], (3:Int)))
    (.br (c == (13:Int)) (.ret (true, false, bad, [], (0:Int)))
    (.br (c == (10:Int)) (.call (q5p.f p (1:Int)) fun y21 =>
     .br y21 (.call (q2p.f []) fun (y22a, y22b) =>
      .okl ((0:Nat))<|.ret (y22a, y22b, bad, [], (1:Int)))
     (.br (c == (10:Int)) (.call (q2s.f []) fun (y23a, y23b) =>
      .okl ((0:Nat))<|.ret (y23a, false, y23b, [], (3:Int)))
      (.br (decide ((0:Int) ≥ most)) (.call (q2s.f []) fun (y24a, y24b) =>
       .okl ((0:Nat))<|.ret (y24a, false, y24b, [], (4:Int)))
      (.chk ((0:Int) <= c ∧ c < (256:Int))<|.ret (pending, false, bad, [UInt8.ofNat c.toNat], (0:Int))))))
     (.br (c == (10:Int)) (.call (q2s.f []) fun (y25a, y25b) =>
      .okl ((0:Nat))<|.ret (y25a, false, y25b, [], (3:Int)))
     (.br (decide ((0:Int) ≥ most)) (.call (q2s.f []) fun (y26a, y26b) =>
      .okl ((0:Nat))<|.ret (y26a, false, y26b, [], (4:Int)))
      (.chk ((0:Int) <= c ∧ c < (256:Int))<|.ret (pending, false, bad, [UInt8.ofNat c.toNat], (0:Int)))))))))
   (.br pending (.call (q2s.f []) fun (y27a, y27b) =>
    .okl ((0:Nat))<|.ret (y27a, false, y27b, [], (3:Int)))
   (.br (c == (13:Int)) (.ret (true, false, bad, [], (0:Int)))
    (.br (c == (10:Int)) (.call (q5p.f p (1:Int)) fun y28 =>
     .br y28 (.call (q2p.f []) fun (y29a, y29b) =>
     .okl ((0:Nat))<|.ret (y29a, y29b, bad, [], (1:Int)))
     (.br (c == (10:Int)) (.call (q2s.f []) fun (y30a, y30b) =>
      .okl ((0:Nat))<|.ret (y30a, false, y30b, [], (3:Int)))
     (.br (decide ((0:Int) ≥ most)) (.call (q2s.f []) fun (y31a, y31b) =>
      .okl ((0:Nat))<|.ret (y31a, false, y31b, [], (4:Int)))
      (.chk ((0:Int) <= c ∧ c < (256:Int))<|.ret (pending, false, bad, [UInt8.ofNat c.toNat], (0:Int))))))
    (.br (c == (10:Int)) (.call (q2s.f []) fun (y32a, y32b) =>
     .okl ((0:Nat))<|.ret (y32a, false, y32b, [], (3:Int)))
     (.br (decide ((0:Int) ≥ most)) (.call (q2s.f []) fun (y33a, y33b) =>
      .okl ((0:Nat))<|.ret (y33a, false, y33b, [], (4:Int)))
     (.chk ((0:Int) <= c ∧ c < (256:Int))<|.ret (pending, false, bad, [UInt8.ofNat c.toNat], (0:Int))))))))))
  (.br pending (.br (c == (10:Int)) (.okl b.length<|.call (q2p.f b) fun (y34a, y34b) =>
   .okl b.length<|.ret (y34a, y34b, bad, b, (1:Int)))
   (.br pending (.call (q5p.f p (2:Int)) fun y35 =>
    .br y35 (.okl b.length<|.call (q2p.f b) fun (y36a, y36b) =>
    .okl b.length<|.ret (y36a, y36b, bad, b, (2:Int)))
    (.br pending (.okl b.length<|.call (q2s.f b) fun (y37a, y37b) =>
     .okl b.length<|.ret (y37a, over, y37b, b, (3:Int)))
    (.br (c == (13:Int)) (.okl b.length<|.ret (true, over, bad, b, (0:Int)))
     (.br (c == (10:Int)) (.call (q5p.f p (1:Int)) fun y38 =>
      .br y38 (.okl b.length<|.call (q2p.f b) fun (y39a, y39b) =>
      .okl b.length<|.ret (y39a, y39b, bad, b, (1:Int)))
      (.br (c == (10:Int)) (.okl b.length<|.call (q2s.f b) fun (y40a, y40b) =>
       .okl b.length<|.ret (y40a, over, y40b, b, (3:Int)))
      (.br (decide ((↑b.length:Int) ≥ most)) (.okl b.length<|.call (q2s.f b) fun (y41a, y41b) =>
       .okl b.length<|.ret (y41a, over, y41b, b, (4:Int)))
       (.chk ((0:Nat) + b.length <= b.length)<|.chk ((b.length + (1:Nat)) * (1:Nat) <= (140737488355328:Nat))<|.chk ((0:Int) <= c ∧ c < (256:Int))<|.chk ((0:Nat) = (0:Nat) ∧ b.length + (1:Nat) = (List.take b.length (List.drop (0:Nat) b) ++ [UInt8.ofNat c.toNat]).length)<|.ret (pending, over, bad, List.take b.length (List.drop (0:Nat) b) ++ [UInt8.ofNat c.toNat], (0:Int))))))
     (.br (c == (10:Int)) (.okl b.length<|.call (q2s.f b) fun (y42a, y42b) =>
      .okl b.length<|.ret (y42a, over, y42b, b, (3:Int)))
      (.br (decide ((↑b.length:Int) ≥ most)) (.okl b.length<|.call (q2s.f b) fun (y43a, y43b) =>
       .okl b.length<|.ret (y43a, over, y43b, b, (4:Int)))
      (.chk ((0:Nat) + b.length <= b.length)<|.chk ((b.length + (1:Nat)) * (1:Nat) <= (140737488355328:Nat))<|.chk ((0:Int) <= c ∧ c < (256:Int))<|.chk ((0:Nat) = (0:Nat) ∧ b.length + (1:Nat) = (List.take b.length (List.drop (0:Nat) b) ++ [UInt8.ofNat c.toNat]).length)<|.ret (pending, over, bad, List.take b.length (List.drop (0:Nat) b) ++ [UInt8.ofNat c.toNat], (0:Int)))))))))
   (.br pending (.okl b.length<|.call (q2s.f b) fun (y44a, y44b) =>
    .okl b.length<|.ret (y44a, over, y44b, b, (3:Int)))
    (.br (c == (13:Int)) (.okl b.length<|.ret (true, over, bad, b, (0:Int)))
    (.br (c == (10:Int)) (.call (q5p.f p (1:Int)) fun y45 =>
     .br y45 (.okl b.length<|.call (q2p.f b) fun (y46a, y46b) =>
      .okl b.length<|.ret (y46a, y46b, bad, b, (1:Int)))
     (.br (c == (10:Int)) (.okl b.length<|.call (q2s.f b) fun (y47a, y47b) =>
      .okl b.length<|.ret (y47a, over, y47b, b, (3:Int)))
      (.br (decide ((↑b.length:Int) ≥ most)) (.okl b.length<|.call (q2s.f b) fun (y48a, y48b) =>
       .okl b.length<|.ret (y48a, over, y48b, b, (4:Int)))
      (.chk ((0:Nat) + b.length <= b.length)<|.chk ((b.length + (1:Nat)) * (1:Nat) <= (140737488355328:Nat))<|.chk ((0:Int) <= c ∧ c < (256:Int))<|.chk ((0:Nat) = (0:Nat) ∧ b.length + (1:Nat) = (List.take b.length (List.drop (0:Nat) b) ++ [UInt8.ofNat c.toNat]).length)<|.ret (pending, over, bad, List.take b.length (List.drop (0:Nat) b) ++ [UInt8.ofNat c.toNat], (0:Int))))))
     (.br (c == (10:Int)) (.okl b.length<|.call (q2s.f b) fun (y49a, y49b) =>
      .okl b.length<|.ret (y49a, over, y49b, b, (3:Int)))
     (.br (decide ((↑b.length:Int) ≥ most)) (.okl b.length<|.call (q2s.f b) fun (y50a, y50b) =>
      .okl b.length<|.ret (y50a, over, y50b, b, (4:Int)))
      (.chk ((0:Nat) + b.length <= b.length)<|.chk ((b.length + (1:Nat)) * (1:Nat) <= (140737488355328:Nat))<|.chk ((0:Int) <= c ∧ c < (256:Int))<|.chk ((0:Nat) = (0:Nat) ∧ b.length + (1:Nat) = (List.take b.length (List.drop (0:Nat) b) ++ [UInt8.ofNat c.toNat]).length)<|.ret (pending, over, bad, List.take b.length (List.drop (0:Nat) b) ++ [UInt8.ofNat c.toNat], (0:Int))))))))))
  (.br pending (.call (q5p.f p (2:Int)) fun y51 =>
   .br y51 (.okl b.length<|.call (q2p.f b) fun (y52a, y52b) =>
    .okl b.length<|.ret (y52a, y52b, bad, b, (2:Int)))
   (.br pending (.okl b.length<|.call (q2s.f b) fun (y53a, y53b) =>
    .okl b.length<|.ret (y53a, over, y53b, b, (3:Int)))
    (.br (c == (13:Int)) (.okl b.length<|.ret (true, over, bad, b, (0:Int)))
    (.br (c == (10:Int)) (.call (q5p.f p (1:Int)) fun y54 =>
     .br y54 (.okl b.length<|.call (q2p.f b) fun (y55a, y55b) =>
      .okl b.length<|.ret (y55a, y55b, bad, b, (1:Int)))
     (.br (c == (10:Int)) (.okl b.length<|.call (q2s.f b) fun (y56a, y56b) =>
      .okl b.length<|.ret (y56a, over, y56b, b, (3:Int)))
      (.br (decide ((↑b.length:Int) ≥ most)) (.okl b.length<|.call (q2s.f b) fun (y57a, y57b) =>
       .okl b.length<|.ret (y57a, over, y57b, b, (4:Int)))
      (.chk ((0:Nat) + b.length <= b.length)<|.chk ((b.length + (1:Nat)) * (1:Nat) <= (140737488355328:Nat))<|.chk ((0:Int) <= c ∧ c < (256:Int))<|.chk ((0:Nat) = (0:Nat) ∧ b.length + (1:Nat) = (List.take b.length (List.drop (0:Nat) b) ++ [UInt8.ofNat c.toNat]).length)<|.ret (pending, over, bad, List.take b.length (List.drop (0:Nat) b) ++ [UInt8.ofNat c.toNat], (0:Int))))))
     (.br (c == (10:Int)) (.okl b.length<|.call (q2s.f b) fun (y58a, y58b) =>
      .okl b.length<|.ret (y58a, over, y58b, b, (3:Int)))
     (.br (decide ((↑b.length:Int) ≥ most)) (.okl b.length<|.call (q2s.f b) fun (y59a, y59b) =>
      .okl b.length<|.ret (y59a, over, y59b, b, (4:Int)))
      (.chk ((0:Nat) + b.length <= b.length)<|.chk ((b.length + (1:Nat)) * (1:Nat) <= (140737488355328:Nat))<|.chk ((0:Int) <= c ∧ c < (256:Int))<|.chk ((0:Nat) = (0:Nat) ∧ b.length + (1:Nat) = (List.take b.length (List.drop (0:Nat) b) ++ [UInt8.ofNat c.toNat]).length)<|.ret (pending, over, bad, List.take b.length (List.drop (0:Nat) b) ++ [UInt8.ofNat c.toNat], (0:Int)))))))))
   (.br pending (.okl b.length<|.call (q2s.f b) fun (y60a, y60b) =>
    .okl b.length<|.ret (y60a, over, y60b, b, (3:Int)))
   (.br (c == (13:Int)) (.okl b.length<|.ret (true, over, bad, b, (0:Int)))
    (.br (c == (10:Int)) (.call (q5p.f p (1:Int)) fun y61 =>
     .br y61 (.okl b.length<|.call (q2p.f b) fun (y62a, y62b) =>
     .okl b.length<|.ret (y62a, y62b, bad, b, (1:Int)))
     (.br (c == (10:Int)) (.okl b.length<|.call (q2s.f b) fun (y63a, y63b) =>
      .okl b.length<|.ret (y63a, over, y63b, b, (3:Int)))
     (.br (decide ((↑b.length:Int) ≥ most)) (.okl b.length<|.call (q2s.f b) fun (y64a, y64b) =>
      .okl b.length<|.ret (y64a, over, y64b, b, (4:Int)))
      (.chk ((0:Nat) + b.length <= b.length)<|.chk ((b.length + (1:Nat)) * (1:Nat) <= (140737488355328:Nat))<|.chk ((0:Int) <= c ∧ c < (256:Int))<|.chk ((0:Nat) = (0:Nat) ∧ b.length + (1:Nat) = (List.take b.length (List.drop (0:Nat) b) ++ [UInt8.ofNat c.toNat]).length)<|.ret (pending, over, bad, List.take b.length (List.drop (0:Nat) b) ++ [UInt8.ofNat c.toNat], (0:Int))))))
    (.br (c == (10:Int)) (.okl b.length<|.call (q2s.f b) fun (y65a, y65b) =>
     .okl b.length<|.ret (y65a, over, y65b, b, (3:Int)))
     (.br (decide ((↑b.length:Int) ≥ most)) (.okl b.length<|.call (q2s.f b) fun (y66a, y66b) =>
      .okl b.length<|.ret (y66a, over, y66b, b, (4:Int)))
     (.chk ((0:Nat) + b.length <= b.length)<|.chk ((b.length + (1:Nat)) * (1:Nat) <= (140737488355328:Nat))<|.chk ((0:Int) <= c ∧ c < (256:Int))<|.chk ((0:Nat) = (0:Nat) ∧ b.length + (1:Nat) = (List.take b.length (List.drop (0:Nat) b) ++ [UInt8.ofNat c.toNat]).length)<|.ret (pending, over, bad, List.take b.length (List.drop (0:Nat) b) ++ [UInt8.ofNat c.toNat], (0:Int)))))))))))
def f (p:Int) (most:Int) (pending:Bool) (over:Bool) (bad:Bool) (b : Ls) (c:Int) := (t p most pending over bad b c).val
def G (x : D.den) := t x.1.1.1 x.1.1.2.1 x.1.1.2.2.2.1 x.1.1.2.2.2.2.1 x.1.1.2.2.2.2.2 x.1.2.1 x.2.2
def F (x : D.den) := (G x).val
def pa : D.den -> Rt -> A.den := fun (((p, (most, (_, (_, (_, _))))), (_, _)), (_, _)) (y1, y2, y3, y4, y5) => (((p, (most, ((), (y1, (y2, y3))))), ((), (y4, ()))), y5)
def con : Con := tcon D A pa F
theorem ok : zgu Tryz.prog 40 con := zij Base.mixed Base.prog_ok q2u (by kernel_rfl) zht.nil 9 (fun _ => rfl) G (fun _ => rfl) fun _ _ _ => (by kernel_rfl)
end q2g
def q2h : Book := q2t.add 40 q2g.con
theorem q2i : zgv Tryz.prog q2h := q2u.add q2g.ok
namespace q2m
def D : Dom := q2d.A
def A : Dom := ⟨[.cells (.cat (.int .u32) (.cat (.int .i64) (.cat (.sl 1 1) (.cat .bool (.cat .bool .bool))))) 77 false, .vec .byte 5 false], .str⟩
def t (over:Bool) (bad:Bool) (b : Ls) : Tr (Ls) :=
 .br (!over) (.okl b.length<|.ret [])
 (.br bad (.okl b.length<|.ret [])
  (.chk ((0:Nat) + b.length <= b.length)<|.okl b.length<|.ret (List.take b.length (List.drop (0:Nat) b))))
def f (over:Bool) (bad:Bool) (b : Ls) := (t over bad b).val
def G (x : D.den) := t x.1.1.2.2.2.2.1 x.1.1.2.2.2.2.2 x.1.2.1
def F (x : D.den) := (G x).val
def pa : D.den -> (Ls) -> A.den := fun (((p, (most, (_, (pending, (over, bad))))), (b, _)), _) y1 => (((p, (most, ((), (pending, (over, bad))))), (b, ())), y1)
def con : Con := tcon D A pa F
theorem ok : zgu Tryz.prog 55 con := zij Base.mixed Base.prog_ok q2i (by kernel_rfl) zht.nil 9 (fun _ => rfl) G (fun _ => rfl) fun _ _ _ => (by kernel_rfl)
end q2m
def q2n : Book := q2h.add 55 q2m.con
theorem q2o : zgv Tryz.prog q2n := q2i.add q2m.ok
namespace q37
def D : Dom := ⟨[], (.int .u8)⟩
def A : Dom := ⟨[], .bool⟩
def t (c:Int) : Tr (Bool) :=
 .br (c == (32:Int)) (.ret true)
 (.ret (c == (9:Int)))
def f (c:Int) := (t c).val
def G (x : D.den) := t x.2
def F (x : D.den) := (G x).val
def pa : D.den -> (Bool) -> A.den := fun (_, _) y1 => ((), y1)
def con : Con := tcon D A pa F
theorem ok : zgu Tryz.prog 79 con := zij Base.mixed Base.prog_ok q2o (by kernel_rfl) zht.nil 9 (fun _ => rfl) G (fun _ => rfl) fun _ _ _ => (by kernel_rfl)
end q37
def q38 : Book := q2n.add 79 q37.con
theorem q39 : zgv Tryz.prog q38 := q2o.add q37.ok
namespace qc7
def D : Dom := ⟨[], (.cat .str (.lit (.func (.func 79) [] [])))⟩
namespace L1
def D : Dom := ⟨[], (.cat .str (.lit (.func (.func 79) [] [])))⟩
def A : Dom := ⟨[], (.cat .str (.lit (.func (.func 79) [] [])))⟩
def t (s : Ls) : Tr ((Ls) ⊕ (Ls)) :=
 .br (!s == []) (.chk ((0:Int) <= (0:Int) ∧ (0:Int) < (↑s.length:Int))<|.call (q37.f (↑(s.getD (Int.toNat (0:Int)) (0:UInt8)).toNat:Int)) fun y1 =>
  .br y1 (.chk ((0:Int) <= (1:Int) ∧ (1:Int) <= (↑s.length:Int) ∧ (↑s.length:Int) <= (↑s.length:Int))<|.ret (.inl (List.drop (Int.toNat (1:Int)) (List.take (↑s.length:Int).toNat s))))
  (.ret (.inr s)))
 (.ret (.inr s))
def f (s : Ls) := Loop (fun z : Ls => t z) s
def F (x : D.den) := f x.2.1
def pa : D.den -> (Ls) -> A.den := fun (_, (_, _)) y1 => ((), (y1, ()))
def lap : Lap := tlap 1 32 [0, 1] D (.exit 0) [0, 1] A pa F
def pk (x : D.den) (z : Ls) : D.den := ((), (z, ()))
def un (x : D.den) := x.2.1
def body (x : D.den) (z : Ls) := t z
theorem ok : zhe Tryz.prog 0 (codeOf Tryz.prog 107) lap := zil Base.mixed Base.prog_ok q39 (by kernel_rfl) (by kernel_rfl) zht.nil 9 pk un body (fun _ _ => rfl) (fun _ _ => rfl) (fun _ _ => rfl) (fun _ => rfl) fun _ _ _ _ => (by kernel_rfl)
end L1
namespace L3
def D : Dom := ⟨[], (.cat .str (.lit (.func (.func 79) [] [])))⟩
def A : Dom := ⟨[], .str⟩
def t (s : Ls) : Tr ((Ls) ⊕ (Ls)) :=
 .br (!s == []) (.chk ((0:Int) <= IntKind.i64.wrap ((↑s.length:Int) - (1:Int)) ∧ IntKind.i64.wrap ((↑s.length:Int) - (1:Int)) < (↑s.length:Int))<|.call (q37.f (↑(s.getD (IntKind.i64.wrap ((↑s.length:Int) - (1:Int))).toNat (0:UInt8)).toNat:Int)) fun y1 =>
  .br y1 (.chk ((0:Int) <= (0:Int) ∧ (0:Int) <= IntKind.i64.wrap ((↑s.length:Int) - (1:Int)) ∧ IntKind.i64.wrap ((↑s.length:Int) - (1:Int)) <= (↑s.length:Int))<|.ret (.inl (List.drop (↑(0:Nat):Int).toNat (List.take (IntKind.i64.wrap ((↑s.length:Int) - (1:Int))).toNat s))))
  (.ret (.inr s)))
 (.ret (.inr s))
def f (s : Ls) := Loop (fun z : Ls => t z) s
def F (x : D.den) := f x.2.1
def pa : D.den -> (Ls) -> A.den := fun (_, (_, _)) y1 => ((), y1)
def lap : Lap := tlap 3 32 [0, 1] D (.exit 2) [0] A pa F
def pk (x : D.den) (z : Ls) : D.den := ((), (z, ()))
def un (x : D.den) := x.2.1
def body (x : D.den) (z : Ls) := t z
theorem ok : zhe Tryz.prog 0 (codeOf Tryz.prog 107) lap := zil Base.mixed Base.prog_ok q39 (by kernel_rfl) (by kernel_rfl) zht.nil 9 pk un body (fun _ _ => rfl) (fun _ _ => rfl) (fun _ _ => rfl) (fun _ => rfl) fun _ _ _ _ => (by kernel_rfl)
end L3
def A : Dom := ⟨[], .str⟩
def t (s : Ls) : Tr (Ls) :=
 .call (qc7.L1.f s) fun y1 =>
 .call (qc7.L3.f y1) fun y2 =>
 .ret y2
def f (s : Ls) := (t s).val
def G (x : D.den) := t x.2.1
def F (x : D.den) := (G x).val
def pa : D.den -> (Ls) -> A.den := fun (_, (_, _)) y1 => ((), y1)
def con : Con := tcon D A pa F
theorem ok : zgu Tryz.prog 107 con := zij Base.mixed Base.prog_ok q39 (by kernel_rfl) (.cons L1.ok (by kernel_rfl) (.cons L3.ok (by kernel_rfl) (.nil))) 9 (fun _ => rfl) G (fun _ => rfl) fun _ _ _ => (by kernel_rfl)
end qc7
def qc8 : Book := q38.addS 107 (fun a => zik 1 79 a) qc7.con
theorem qc9 : zgv Tryz.prog qc8 := q39.addS qc7.ok
namespace qby
def D : Dom := ⟨[], .str⟩
def A : Dom := ⟨[], .str⟩
def t (s : Ls) : Tr (Ls) :=
 .call (qc7.f s) fun y1 =>
 .ret y1
def f (s : Ls) := (t s).val
def G (x : D.den) := t x.2
def F (x : D.den) := (G x).val
def pa : D.den -> (Ls) -> A.den := fun (_, _) y1 => ((), y1)
def con : Con := tcon D A pa F
theorem ok : zgu Tryz.prog 80 con := zij Base.mixed Base.prog_ok qc9 (by kernel_rfl) zht.nil 9 (fun _ => rfl) G (fun _ => rfl) fun _ _ _ => (by kernel_rfl)
end qby
def qbz : Book := qc8.add 80 qby.con
theorem qc0 : zgv Tryz.prog qbz := qc9.add qby.ok
namespace q7a
def D : Dom := ⟨[], (.int .i32)⟩
def A : Dom := ⟨[], .bool⟩
def t (c:Int) : Tr (Bool) :=
 .br (c == (32:Int)) (.ret true)
 (.ret (c == (9:Int)))
def f (c:Int) := (t c).val
def G (x : D.den) := t x.2
def F (x : D.den) := (G x).val
def pa : D.den -> (Bool) -> A.den := fun (_, _) y1 => ((), y1)
def con : Con := tcon D A pa F
theorem ok : zgu Tryz.prog 88 con := zij Base.mixed Base.prog_ok qc0 (by kernel_rfl) zht.nil 9 (fun _ => rfl) G (fun _ => rfl) fun _ _ _ => (by kernel_rfl)
end q7a
def q7b : Book := qbz.add 88 q7a.con
theorem q7c : zgv Tryz.prog q7b := qc0.add q7a.ok
namespace q1r
def D : Dom := ⟨[], (.cat .str (.lit (.str false [32])))⟩
def A : Dom := ⟨[], (.int .i64)⟩
def t (s : Ls) : Tr (Int) :=
 .br ([(32:UInt8)] == s) (.ret (0:Int))
 (.call (q97.f s (32:Int)) fun y1 =>
  .ret y1)
def f (s : Ls) := (t s).val
def G (x : D.den) := t x.2.1
def F (x : D.den) := (G x).val
def pa : D.den -> (Int) -> A.den := fun (_, (_, _)) y1 => ((), y1)
def con : Con := tcon D A pa F
theorem ok : zgu Tryz.prog 127 con := zij Base.mixed Base.prog_ok q7c (by kernel_rfl) zht.nil 9 (fun _ => rfl) G (fun _ => rfl) fun _ _ _ => (by kernel_rfl)
end q1r
def q1s : Book := q7b.addS 127 (fun a => ziq 1 [32] a) q1r.con
theorem q1t : zgv Tryz.prog q1s := q7c.addS q1r.ok
namespace qaa
def D : Dom := ⟨[], (.cat .str (.lit (.str false [32])))⟩
def A : Dom := ⟨[], (.int .i64)⟩
def t (s : Ls) : Tr (Int) :=
 .call (q1r.f s) fun y1 =>
 .ret y1
def f (s : Ls) := (t s).val
def G (x : D.den) := t x.2.1
def F (x : D.den) := (G x).val
def pa : D.den -> (Int) -> A.den := fun (_, (_, _)) y1 => ((), y1)
def con : Con := tcon D A pa F
theorem ok : zgu Tryz.prog 133 con := zij Base.mixed Base.prog_ok q1t (by kernel_rfl) zht.nil 9 (fun _ => rfl) G (fun _ => rfl) fun _ _ _ => (by kernel_rfl)
end qaa
def qab : Book := q1s.addS 133 (fun a => ziq 1 [32] a) qaa.con
theorem qac : zgv Tryz.prog qab := q1t.addS qaa.ok
namespace qav
def D : Dom := ⟨[], (.cat .str (.cat (.lit (.str false [32])) (.cat (.int .i64) (.int .i64))))⟩
namespace L11
def D : Dom := ⟨[.vec .str 9 false], (.cat .str (.cat (.lit (.str false [32])) (.cat (.int .i64) (.cat (.int .i64) (.cat (.sl 0 1) (.int .i64))))))⟩
def A : Dom := ⟨[.vec .str 9 false], (.cat .str (.cat (.sl 0 1) (.int .i64)))⟩
abbrev Zt := List (Ls) × Ls × Int
abbrev Rt := List (Ls) × Ls × Int
def t (va : List (Ls)) (s : Ls) (sepSave:Int) (n:Int) (i:Int) : Tr (Zt ⊕ Rt) :=
 .br (decide (i < n)) (.call (qaa.f s) fun y1 =>
  .br (decide (y1 < (0:Int))) (.okl va.length<|.ret (.inr (va, s, i)))
  (.chk ((0:Int) <= (0:Int) ∧ (0:Int) <= IntKind.i64.wrap (y1 + sepSave) ∧ IntKind.i64.wrap (y1 + sepSave) <= (↑s.length:Int))<|.chk ((0:Int) <= i ∧ i < (↑va.length:Int))<|.chk ((0:Nat) + i.toNat < va.length)<|.chk ((0:Int) <= IntKind.i64.wrap (y1 + (1:Int)) ∧ IntKind.i64.wrap (y1 + (1:Int)) <= (↑s.length:Int) ∧ (↑s.length:Int) <= (↑s.length:Int))<|.chk ((0:Nat) = (0:Nat) ∧ va.length = (va.set ((0:Nat) + i.toNat) (List.drop (↑(0:Nat):Int).toNat (List.take (IntKind.i64.wrap (y1 + sepSave)).toNat s))).length)<|.ret (.inl (va.set ((0:Nat) + i.toNat) (List.drop (↑(0:Nat):Int).toNat (List.take (IntKind.i64.wrap (y1 + sepSave)).toNat s)), List.drop (IntKind.i64.wrap (y1 + (1:Int))).toNat (List.take (↑s.length:Int).toNat s), IntKind.i64.wrap (i + (1:Int))))))
 (.okl va.length<|.ret (.inr (va, s, i)))
def f (va : List (Ls)) (s : Ls) (sepSave:Int) (n:Int) (i:Int) := Loop (fun z : Zt => t z.1 z.2.1 sepSave n z.2.2) (va, s, i)
def F (x : D.den) := f x.1.1 x.2.1 x.2.2.2.1 x.2.2.2.2.1 x.2.2.2.2.2.2
def pa : D.den -> Rt -> A.den := fun ((_, _), (_, (_, (_, (_, (_, _)))))) (y1, y2, y3) => ((y1, ()), (y2, ((), y3)))
def lap : Lap := tlap 11 66 [0, 1, 2, 3, 9, 10] D (.exit 0) [0, 9, 10] A pa F
def pk (x : D.den) (z : Zt) : D.den := ((z.1, ()), (z.2.1, ((), (x.2.2.2.1, (x.2.2.2.2.1, ((), z.2.2))))))
def un (x : D.den) := (x.1.1, x.2.1, x.2.2.2.2.2.2)
def body (x : D.den) (z : Zt) := t z.1 z.2.1 x.2.2.2.1 x.2.2.2.2.1 z.2.2
theorem ok : zhe Tryz.prog 0 (codeOf Tryz.prog 115) lap := zil Base.mixed Base.prog_ok qac (by kernel_rfl) (by kernel_rfl) zht.nil 9 pk un body (fun _ _ => rfl) (fun _ _ => rfl) (fun _ _ => rfl) (fun _ => rfl) fun _ _ _ _ => (by kernel_rfl)
end L11
def A : Dom := ⟨[.vec .str 9 false], (.sl 0 1)⟩
abbrev Rt := List (Ls)
def t (s : Ls) (sepSave:Int) (n:Int) : Tr Rt :=
 .br (n == (0:Int)) (.ret [])
 (.br (decide (n < (0:Int))) (.call (q9d.f s [(32:UInt8)]) fun y1 =>
  .chk ((0:Int) <= mn2 (IntKind.i64.wrap (y1 + (1:Int))) (IntKind.i64.wrap ((↑s.length:Int) + (1:Int))) ∧ mn2 (IntKind.i64.wrap (y1 + (1:Int))) (IntKind.i64.wrap ((↑s.length:Int) + (1:Int))) <= mn2 (IntKind.i64.wrap (y1 + (1:Int))) (IntKind.i64.wrap ((↑s.length:Int) + (1:Int))) ∧ mn2 (IntKind.i64.wrap (y1 + (1:Int))) (IntKind.i64.wrap ((↑s.length:Int) + (1:Int))) * (↑(16:Nat):Int) <= (140737488355328:Int) ∧ mn2 (IntKind.i64.wrap (y1 + (1:Int))) (IntKind.i64.wrap ((↑s.length:Int) + (1:Int))) <= (140737488355328:Int))<|.chk ((0:Nat) = (0:Nat) ∧ (mn2 (IntKind.i64.wrap (y1 + (1:Int))) (IntKind.i64.wrap ((↑s.length:Int) + (1:Int)))).toNat = (List.replicate (mn2 (IntKind.i64.wrap (y1 + (1:Int))) (IntKind.i64.wrap ((↑s.length:Int) + (1:Int)))).toNat ([] : Ls)).length)<|.call (qav.L11.f (List.replicate (mn2 (IntKind.i64.wrap (y1 + (1:Int))) (IntKind.i64.wrap ((↑s.length:Int) + (1:Int)))).toNat ([] : Ls)) s sepSave (IntKind.i64.wrap (mn2 (IntKind.i64.wrap (y1 + (1:Int))) (IntKind.i64.wrap ((↑s.length:Int) + (1:Int))) - (1:Int))) (0:Int)) fun (y2a, y2b, y2c) =>
  .chk ((0:Int) <= y2c ∧ y2c < (↑y2a.length:Int))<|.chk ((0:Nat) + y2c.toNat < y2a.length)<|.chk ((0:Int) <= (0:Int) ∧ (0:Int) <= IntKind.i64.wrap (y2c + (1:Int)) ∧ IntKind.i64.wrap (y2c + (1:Int)) <= (↑y2a.length:Int))<|.chk ((0:Nat) = (0:Nat) ∧ (IntKind.i64.wrap (y2c + (1:Int)) - (↑(0:Nat):Int)).toNat = (y2a.set ((0:Nat) + y2c.toNat) y2b).length)<|.ret (y2a.set ((0:Nat) + y2c.toNat) y2b))
  (.chk ((0:Int) <= mn2 n (IntKind.i64.wrap ((↑s.length:Int) + (1:Int))) ∧ mn2 n (IntKind.i64.wrap ((↑s.length:Int) + (1:Int))) <= mn2 n (IntKind.i64.wrap ((↑s.length:Int) + (1:Int))) ∧ mn2 n (IntKind.i64.wrap ((↑s.length:Int) + (1:Int))) * (↑(16:Nat):Int) <= (140737488355328:Int) ∧ mn2 n (IntKind.i64.wrap ((↑s.length:Int) + (1:Int))) <= (140737488355328:Int))<|.chk ((0:Nat) = (0:Nat) ∧ (mn2 n (IntKind.i64.wrap ((↑s.length:Int) + (1:Int)))).toNat = (List.replicate (mn2 n (IntKind.i64.wrap ((↑s.length:Int) + (1:Int)))).toNat ([] : Ls)).length)<|.call (qav.L11.f (List.replicate (mn2 n (IntKind.i64.wrap ((↑s.length:Int) + (1:Int)))).toNat ([] : Ls)) s sepSave (IntKind.i64.wrap (mn2 n (IntKind.i64.wrap ((↑s.length:Int) + (1:Int))) - (1:Int))) (0:Int)) fun (y3a, y3b, y3c) =>
  .chk ((0:Int) <= y3c ∧ y3c < (↑y3a.length:Int))<|.chk ((0:Nat) + y3c.toNat < y3a.length)<|.chk ((0:Int) <= (0:Int) ∧ (0:Int) <= IntKind.i64.wrap (y3c + (1:Int)) ∧ IntKind.i64.wrap (y3c + (1:Int)) <= (↑y3a.length:Int))<|.chk ((0:Nat) = (0:Nat) ∧ (IntKind.i64.wrap (y3c + (1:Int)) - (↑(0:Nat):Int)).toNat = (y3a.set ((0:Nat) + y3c.toNat) y3b).length)<|.ret (y3a.set ((0:Nat) + y3c.toNat) y3b)))
def f (s : Ls) (sepSave:Int) (n:Int) := (t s sepSave n).val
def G (x : D.den) := t x.2.1 x.2.2.2.1 x.2.2.2.2
def F (x : D.den) := (G x).val
def pa : D.den -> Rt -> A.den := fun (_, (_, (_, (_, _)))) y1 => ((y1, ()), ())
def con : Con := tcon D A pa F
theorem ok : zgu Tryz.prog 115 con := zij Base.mixed Base.prog_ok qac (by kernel_rfl) (.cons L11.ok (by kernel_rfl) (.nil)) 9 (fun _ => rfl) G (fun _ => rfl) fun _ _ _ => (by kernel_rfl)
end qav
def qaw : Book := qab.addS 115 (fun a => ziq 1 [32] a) qav.con
theorem qax : zgv Tryz.prog qaw := qac.addS qav.ok
namespace qaj
def D : Dom := ⟨[], (.cat .str (.lit (.str false [32])))⟩
def A : Dom := ⟨[.vec .str 9 false], (.sl 0 1)⟩
abbrev Rt := List (Ls)
def t (s : Ls) : Tr Rt :=
 .call (qav.f s (0:Int) (-1:Int)) fun y1 =>
 .okl y1.length<|.ret y1
def f (s : Ls) := (t s).val
def G (x : D.den) := t x.2.1
def F (x : D.den) := (G x).val
def pa : D.den -> Rt -> A.den := fun (_, (_, _)) y1 => ((y1, ()), ())
def con : Con := tcon D A pa F
theorem ok : zgu Tryz.prog 86 con := zij Base.mixed Base.prog_ok qax (by kernel_rfl) zht.nil 9 (fun _ => rfl) G (fun _ => rfl) fun _ _ _ => (by kernel_rfl)
end qaj
def qak : Book := qaw.addS 86 (fun a => ziq 1 [32] a) qaj.con
theorem qal : zgv Tryz.prog qak := qax.addS qaj.ok
namespace q91
def D : Dom := ⟨[.vec .str 9 true], (.cat (.sl 0 1) (.lit (.str false [])))⟩
namespace L2
def D : Dom := ⟨[.vec .str 9 true], (.cat (.sl 0 1) (.cat (.lit (.str false [])) (.cat (.int .i64) (.int .i64))))⟩
def A : Dom := ⟨[.vec .str 9 true], .nil⟩
def B : Dom := ⟨[.vec .str 9 true], (.int .i64)⟩
def t (s : List (Ls)) (t7:Int) (t8:Int) : Tr ((Int) ⊕ ((Unit) ⊕ (Int))) :=
 .br (decide (t8 < t7)) (.chk ((0:Int) <= t8 ∧ t8 < (↑s.length:Int))<|.chk ((0:Nat) + t8.toNat < s.length)<|.br ([] == s.getD ((0:Nat) + t8.toNat) []) (.ret (.inr (.inr t8)))
  (.okl s.length<|.ret (.inl (IntKind.i64.wrap (t8 + (1:Int))))))
 (.ret (.inr (.inl ())))
def f (s : List (Ls)) (t7:Int) (t8:Int) := Loop (fun z : Int => t s t7 z) t8
def F (x : D.den) := f x.1.1 x.2.2.2.1 x.2.2.2.2
def pa : D.den -> (Unit) -> A.den := fun ((s, _), (_, (_, (_, _)))) _ => ((s, ()), ())
def pb : D.den -> (Int) -> B.den := fun ((s, _), (_, (_, (_, _)))) y1 => ((s, ()), y1)
def lap : Lap := zim 2 19 [0, 1, 7, 8] D (.exit 0) [] A .ret [4] B pa pb F
def pk (x : D.den) (z:Int) : D.den := ((x.1.1, ()), ((), ((), (x.2.2.2.1, z))))
def un (x : D.den) := x.2.2.2.2
def body (x : D.den) (z:Int) := t x.1.1 x.2.2.2.1 z
theorem ok : zhe Tryz.prog 1 (codeOf Tryz.prog 102) lap := zin Base.mixed Base.prog_ok qal (by kernel_rfl) (by kernel_rfl) zht.nil 9 pk un body (fun _ _ => rfl) (fun _ _ => rfl) (fun _ _ => rfl) (fun _ _ => rfl) (fun _ => rfl) fun _ _ _ _ => (by kernel_rfl)
end L2
def A : Dom := ⟨[.vec .str 9 true], (.int .i64)⟩
def t (s : List (Ls)) : Tr (Int) :=
 .okl s.length<|.both (q91.L2.f s (↑s.length:Int) (0:Int)) (fun _ => .ret (-1:Int))
 (fun y2 => .ret y2)
def f (s : List (Ls)) := (t s).val
def G (x : D.den) := t x.1.1
def F (x : D.den) := (G x).val
def pa : D.den -> (Int) -> A.den := fun ((s, _), (_, _)) y1 => ((s, ()), y1)
def con : Con := tcon D A pa F
theorem ok : zgu Tryz.prog 102 con := zij Base.mixed Base.prog_ok qal (by kernel_rfl) (.cons L2.ok (by kernel_rfl) (.nil)) 9 (fun _ => rfl) G (fun _ => rfl) fun _ _ _ => (by kernel_rfl)
end q91
def q92 : Book := qak.addS 102 (fun a => ziq 1 [] a) q91.con
theorem q93 : zgv Tryz.prog q92 := qal.addS q91.ok
namespace q8j
def D : Dom := ⟨[.vec .str 9 true], (.cat (.sl 0 1) (.lit (.str false [])))⟩
def A : Dom := ⟨[.vec .str 9 true], .bool⟩
def t (s : List (Ls)) : Tr (Bool) :=
 .chk ((0:Nat) + s.length <= s.length)<|.call (q91.f (List.take s.length (List.drop (0:Nat) s))) fun y1 =>
 .ret (decide (y1 ≥ (0:Int)))
def f (s : List (Ls)) := (t s).val
def G (x : D.den) := t x.1.1
def F (x : D.den) := (G x).val
def pa : D.den -> (Bool) -> A.den := fun ((s, _), (_, _)) y1 => ((s, ()), y1)
def con : Con := tcon D A pa F
theorem ok : zgu Tryz.prog 89 con := zij Base.mixed Base.prog_ok q93 (by kernel_rfl) zht.nil 9 (fun _ => rfl) G (fun _ => rfl) fun _ _ _ => (by kernel_rfl)
end q8j
def q8k : Book := q92.addS 89 (fun a => ziq 1 [] a) q8j.con
theorem q8l : zgv Tryz.prog q8k := q93.addS q8j.ok
namespace q7j
def D : Dom := ⟨[], (.cat .str (.int .u32))⟩
def A : Dom := ⟨[], (.tup (.cat .str (.cat .str (.cat .str (.int .i64)))))⟩
abbrev Rt := Ls × Ls × Ls × Int
def t (s : Ls) (p:Int) : Tr Rt :=
 .call (qaj.f s) fun y1 =>
 .call (q5p.f p (3:Int)) fun y2 =>
 .br y2 (.call (qby.f s) fun y3 =>
  .call (q9p.f y3) fun y4 =>
  .chk ((0:Nat) + y4.length <= y4.length)<|.call (q8j.f (List.take y4.length (List.drop (0:Nat) y4))) fun y5 =>
  .br y5 (.ret ([], [], [], (400:Int)))
  (.br ((↑y4.length:Int) == (3:Int)) (.chk ((0:Int) <= (0:Int) ∧ (0:Int) < (↑y4.length:Int))<|.chk ((0:Nat) < y4.length)<|.chk ((0:Int) <= (1:Int) ∧ (1:Int) < (↑y4.length:Int))<|.chk ((1:Nat) < y4.length)<|.chk ((0:Int) <= (2:Int) ∧ (2:Int) < (↑y4.length:Int))<|.chk ((2:Nat) < y4.length)<|.ret (y4.getD (0:Nat) [], y4.getD (1:Nat) [], y4.getD (2:Nat) [], (0:Int)))
  (.br (decide ((↑y4.length:Int) > (3:Int))) (.call (q5p.f p (7:Int)) fun y6 =>
   .br y6 (.chk ((0:Int) <= (0:Int) ∧ (0:Int) < (↑y4.length:Int))<|.chk ((0:Nat) < y4.length)<|.chk ((0:Int) <= IntKind.i64.wrap ((↑y4.length:Int) - (1:Int)) ∧ IntKind.i64.wrap ((↑y4.length:Int) - (1:Int)) < (↑y4.length:Int))<|.chk ((0:Nat) + (IntKind.i64.wrap ((↑y4.length:Int) - (1:Int))).toNat < y4.length)<|.chk ((0:Int) <= IntKind.i64.wrap ((↑(List.length (y4.getD (0:Nat) [])):Int) + (1:Int)) ∧ IntKind.i64.wrap ((↑(List.length (y4.getD (0:Nat) [])):Int) + (1:Int)) <= IntKind.i64.wrap (IntKind.i64.wrap ((↑y3.length:Int) - (↑(List.length (y4.getD ((0:Nat) + (IntKind.i64.wrap ((↑y4.length:Int) - (1:Int))).toNat) [])):Int)) - (1:Int)) ∧ IntKind.i64.wrap (IntKind.i64.wrap ((↑y3.length:Int) - (↑(List.length (y4.getD ((0:Nat) + (IntKind.i64.wrap ((↑y4.length:Int) - (1:Int))).toNat) [])):Int)) - (1:Int)) <= (↑y3.length:Int))<|.call (q5p.f p (3:Int)) fun y7 =>
    .br y7 (.call (qby.f (List.drop (IntKind.i64.wrap ((↑(List.length (y4.getD (0:Nat) [])):Int) + (1:Int))).toNat (List.take (IntKind.i64.wrap (IntKind.i64.wrap ((↑y3.length:Int) - (↑(List.length (y4.getD ((0:Nat) + (IntKind.i64.wrap ((↑y4.length:Int) - (1:Int))).toNat) [])):Int)) - (1:Int))).toNat y3))) fun y8 =>
    .chk ((0:Int) <= (0:Int) ∧ (0:Int) < (↑y4.length:Int))<|.chk ((0:Nat) < y4.length)<|.chk ((0:Int) <= IntKind.i64.wrap ((↑y4.length:Int) - (1:Int)) ∧ IntKind.i64.wrap ((↑y4.length:Int) - (1:Int)) < (↑y4.length:Int))<|.chk ((0:Nat) + (IntKind.i64.wrap ((↑y4.length:Int) - (1:Int))).toNat < y4.length)<|.ret (y4.getD (0:Nat) [], y8, y4.getD ((0:Nat) + (IntKind.i64.wrap ((↑y4.length:Int) - (1:Int))).toNat) [], (0:Int)))
    (.chk ((0:Int) <= (0:Int) ∧ (0:Int) < (↑y4.length:Int))<|.chk ((0:Nat) < y4.length)<|.chk ((0:Int) <= IntKind.i64.wrap ((↑y4.length:Int) - (1:Int)) ∧ IntKind.i64.wrap ((↑y4.length:Int) - (1:Int)) < (↑y4.length:Int))<|.chk ((0:Nat) + (IntKind.i64.wrap ((↑y4.length:Int) - (1:Int))).toNat < y4.length)<|.ret (y4.getD (0:Nat) [], List.drop (IntKind.i64.wrap ((↑(List.length (y4.getD (0:Nat) [])):Int) + (1:Int))).toNat (List.take (IntKind.i64.wrap (IntKind.i64.wrap ((↑y3.length:Int) - (↑(List.length (y4.getD ((0:Nat) + (IntKind.i64.wrap ((↑y4.length:Int) - (1:Int))).toNat) [])):Int)) - (1:Int))).toNat y3), y4.getD ((0:Nat) + (IntKind.i64.wrap ((↑y4.length:Int) - (1:Int))).toNat) [], (0:Int))))
   (.br ((↑y4.length:Int) == (2:Int)) (.call (q5p.f p (6:Int)) fun y9 =>
    .br y9 (.chk ((0:Int) <= (0:Int) ∧ (0:Int) < (↑y4.length:Int))<|.chk ((0:Nat) < y4.length)<|.chk ((0:Int) <= (1:Int) ∧ (1:Int) < (↑y4.length:Int))<|.chk ((1:Nat) < y4.length)<|.ret (y4.getD (0:Nat) [], y4.getD (1:Nat) [], [], (0:Int)))
    (.ret ([], [], [], (400:Int))))
    (.ret ([], [], [], (400:Int)))))
   (.br ((↑y4.length:Int) == (2:Int)) (.call (q5p.f p (6:Int)) fun y10 =>
    .br y10 (.chk ((0:Int) <= (0:Int) ∧ (0:Int) < (↑y4.length:Int))<|.chk ((0:Nat) < y4.length)<|.chk ((0:Int) <= (1:Int) ∧ (1:Int) < (↑y4.length:Int))<|.chk ((1:Nat) < y4.length)<|.ret (y4.getD (0:Nat) [], y4.getD (1:Nat) [], [], (0:Int)))
    (.ret ([], [], [], (400:Int))))
   (.ret ([], [], [], (400:Int)))))))
 (.chk ((0:Nat) + y1.length <= y1.length)<|.call (q8j.f (List.take y1.length (List.drop (0:Nat) y1))) fun y11 =>
  .br y11 (.ret ([], [], [], (400:Int)))
  (.br ((↑y1.length:Int) == (3:Int)) (.chk ((0:Int) <= (0:Int) ∧ (0:Int) < (↑y1.length:Int))<|.chk ((0:Nat) < y1.length)<|.chk ((0:Int) <= (1:Int) ∧ (1:Int) < (↑y1.length:Int))<|.chk ((1:Nat) < y1.length)<|.chk ((0:Int) <= (2:Int) ∧ (2:Int) < (↑y1.length:Int))<|.chk ((2:Nat) < y1.length)<|.ret (y1.getD (0:Nat) [], y1.getD (1:Nat) [], y1.getD (2:Nat) [], (0:Int)))
  (.br (decide ((↑y1.length:Int) > (3:Int))) (.call (q5p.f p (7:Int)) fun y12 =>
   .br y12 (.chk ((0:Int) <= (0:Int) ∧ (0:Int) < (↑y1.length:Int))<|.chk ((0:Nat) < y1.length)<|.chk ((0:Int) <= IntKind.i64.wrap ((↑y1.length:Int) - (1:Int)) ∧ IntKind.i64.wrap ((↑y1.length:Int) - (1:Int)) < (↑y1.length:Int))<|.chk ((0:Nat) + (IntKind.i64.wrap ((↑y1.length:Int) - (1:Int))).toNat < y1.length)<|.chk ((0:Int) <= IntKind.i64.wrap ((↑(List.length (y1.getD (0:Nat) [])):Int) + (1:Int)) ∧ IntKind.i64.wrap ((↑(List.length (y1.getD (0:Nat) [])):Int) + (1:Int)) <= IntKind.i64.wrap (IntKind.i64.wrap ((↑s.length:Int) - (↑(List.length (y1.getD ((0:Nat) + (IntKind.i64.wrap ((↑y1.length:Int) - (1:Int))).toNat) [])):Int)) - (1:Int)) ∧ IntKind.i64.wrap (IntKind.i64.wrap ((↑s.length:Int) - (↑(List.length (y1.getD ((0:Nat) + (IntKind.i64.wrap ((↑y1.length:Int) - (1:Int))).toNat) [])):Int)) - (1:Int)) <= (↑s.length:Int))<|.call (q5p.f p (3:Int)) fun y13 =>
    .br y13 (.call (qby.f (List.drop (IntKind.i64.wrap ((↑(List.length (y1.getD (0:Nat) [])):Int) + (1:Int))).toNat (List.take (IntKind.i64.wrap (IntKind.i64.wrap ((↑s.length:Int) - (↑(List.length (y1.getD ((0:Nat) + (IntKind.i64.wrap ((↑y1.length:Int) - (1:Int))).toNat) [])):Int)) - (1:Int))).toNat s))) fun y14 =>
    .chk ((0:Int) <= (0:Int) ∧ (0:Int) < (↑y1.length:Int))<|.chk ((0:Nat) < y1.length)<|.chk ((0:Int) <= IntKind.i64.wrap ((↑y1.length:Int) - (1:Int)) ∧ IntKind.i64.wrap ((↑y1.length:Int) - (1:Int)) < (↑y1.length:Int))<|.chk ((0:Nat) + (IntKind.i64.wrap ((↑y1.length:Int) - (1:Int))).toNat < y1.length)<|.ret (y1.getD (0:Nat) [], y14, y1.getD ((0:Nat) + (IntKind.i64.wrap ((↑y1.length:Int) - (1:Int))).toNat) [], (0:Int)))
    (.chk ((0:Int) <= (0:Int) ∧ (0:Int) < (↑y1.length:Int))<|.chk ((0:Nat) < y1.length)<|.chk ((0:Int) <= IntKind.i64.wrap ((↑y1.length:Int) - (1:Int)) ∧ IntKind.i64.wrap ((↑y1.length:Int) - (1:Int)) < (↑y1.length:Int))<|.chk ((0:Nat) + (IntKind.i64.wrap ((↑y1.length:Int) - (1:Int))).toNat < y1.length)<|.ret (y1.getD (0:Nat) [], List.drop (IntKind.i64.wrap ((↑(List.length (y1.getD (0:Nat) [])):Int) + (1:Int))).toNat (List.take (IntKind.i64.wrap (IntKind.i64.wrap ((↑s.length:Int) - (↑(List.length (y1.getD ((0:Nat) + (IntKind.i64.wrap ((↑y1.length:Int) - (1:Int))).toNat) [])):Int)) - (1:Int))).toNat s), y1.getD ((0:Nat) + (IntKind.i64.wrap ((↑y1.length:Int) - (1:Int))).toNat) [], (0:Int))))
   (.br ((↑y1.length:Int) == (2:Int)) (.call (q5p.f p (6:Int)) fun y15 =>
    .br y15 (.chk ((0:Int) <= (0:Int) ∧ (0:Int) < (↑y1.length:Int))<|.chk ((0:Nat) < y1.length)<|.chk ((0:Int) <= (1:Int) ∧ (1:Int) < (↑y1.length:Int))<|.chk ((1:Nat) < y1.length)<|.ret (y1.getD (0:Nat) [], y1.getD (1:Nat) [], [], (0:Int)))
    (.ret ([], [], [], (400:Int))))
    (.ret ([], [], [], (400:Int)))))
   (.br ((↑y1.length:Int) == (2:Int)) (.call (q5p.f p (6:Int)) fun y16 =>
    .br y16 (.chk ((0:Int) <= (0:Int) ∧ (0:Int) < (↑y1.length:Int))<|.chk ((0:Nat) < y1.length)<|.chk ((0:Int) <= (1:Int) ∧ (1:Int) < (↑y1.length:Int))<|.chk ((1:Nat) < y1.length)<|.ret (y1.getD (0:Nat) [], y1.getD (1:Nat) [], [], (0:Int)))
    (.ret ([], [], [], (400:Int))))
   (.ret ([], [], [], (400:Int)))))))
def f (s : Ls) (p:Int) := (t s p).val
def G (x : D.den) := t x.2.1 x.2.2
def F (x : D.den) := (G x).val
def pa : D.den -> Rt -> A.den := fun (_, (_, _)) (y1, y2, y3, y4) => ((), (y1, (y2, (y3, y4))))
def con : Con := tcon D A pa F
theorem ok : zgu Tryz.prog 70 con := zij Base.mixed Base.prog_ok q8l (by kernel_rfl) zht.nil 9 (fun _ => rfl) G (fun _ => rfl) fun _ _ _ => (by kernel_rfl)
end q7j
def q7k : Book := q8k.add 70 q7j.con
theorem q7l : zgv Tryz.prog q7k := q8l.add q7j.ok
end Go.Vx
end
section
set_option maxRecDepth 1000000
set_option maxHeartbeats 4000000
set_option synthInstance.maxSize 100000
set_option synthInstance.maxHeartbeats 400000
namespace Go.Vx
open Go Go.Vx Go.Proofs
namespace q3s
def D : Dom := ⟨[], (.int .u8)⟩
def A : Dom := ⟨[], .bool⟩
def t (c:Int) : Tr (Bool) :=
 .br (decide (IntKind.u8.wrap (↑(BitVec.ofInt IntKind.u8.bits c ||| BitVec.ofInt IntKind.u8.bits (32:Int)).toNat:Int) ≥ (97:Int))) (.ret (decide (IntKind.u8.wrap (↑(BitVec.ofInt IntKind.u8.bits c ||| BitVec.ofInt IntKind.u8.bits (32:Int)).toNat:Int) <= (122:Int))))
 (.ret false)
def f (c:Int) := (t c).val
def G (x : D.den) := t x.2
def F (x : D.den) := (G x).val
def pa : D.den -> (Bool) -> A.den := fun (_, _) y1 => ((), y1)
def con : Con := tcon D A pa F
theorem ok : zgu Tryz.prog 134 con := zij Base.mixed Base.prog_ok q7l (by kernel_rfl) zht.nil 9 (fun _ => rfl) G (fun _ => rfl) fun _ _ _ => (by kernel_rfl)
end q3s
def q3t : Book := q7k.add 134 q3s.con
theorem q3u : zgv Tryz.prog q3t := q7l.add q3s.ok
namespace q3d
def D : Dom := ⟨[], (.int .u8)⟩
def A : Dom := ⟨[], .bool⟩
def t (c:Int) : Tr (Bool) :=
 .br (decide (c ≥ (48:Int))) (.ret (decide (c <= (57:Int))))
 (.ret false)
def f (c:Int) := (t c).val
def G (x : D.den) := t x.2
def F (x : D.den) := (G x).val
def pa : D.den -> (Bool) -> A.den := fun (_, _) y1 => ((), y1)
def con : Con := tcon D A pa F
theorem ok : zgu Tryz.prog 94 con := zij Base.mixed Base.prog_ok q3u (by kernel_rfl) zht.nil 9 (fun _ => rfl) G (fun _ => rfl) fun _ _ _ => (by kernel_rfl)
end q3d
def q3e : Book := q3t.add 94 q3d.con
theorem q3f : zgv Tryz.prog q3e := q3u.add q3d.ok
namespace qa7
def D : Dom := ⟨[], (.cat (.lit (.str false [33, 35, 36, 37, 38, 39, 42, 43, 45, 46, 94, 95, 96, 124, 126])) (.int .u8))⟩
def A : Dom := ⟨[], (.int .i64)⟩
def t (c:Int) : Tr (Int) :=
 .call (q97.f [(33:UInt8), 35, 36, 37, 38, 39, 42, 43, 45, 46, 94, 95, 96, 124, 126] c) fun y1 =>
 .ret y1
def f (c:Int) := (t c).val
def G (x : D.den) := t x.2.2
def F (x : D.den) := (G x).val
def pa : D.den -> (Int) -> A.den := fun (_, (_, _)) y1 => ((), y1)
def con : Con := tcon D A pa F
theorem ok : zgu Tryz.prog 125 con := zij Base.mixed Base.prog_ok q3f (by kernel_rfl) zht.nil 9 (fun _ => rfl) G (fun _ => rfl) fun _ _ _ => (by kernel_rfl)
end qa7
def qa8 : Book := q3e.addS 125 (fun a => ziq 0 [33, 35, 36, 37, 38, 39, 42, 43, 45, 46, 94, 95, 96, 124, 126] a) qa7.con
theorem qa9 : zgv Tryz.prog qa8 := q3f.addS qa7.ok
namespace q3m
def D : Dom := ⟨[], (.int .u8)⟩
def A : Dom := ⟨[], .bool⟩
def t (c:Int) : Tr (Bool) :=
 .call (q3s.f c) fun y1 =>
 .br y1 (.ret true)
 (.call (q3d.f c) fun y2 =>
  .br y2 (.ret true)
  (.call (qa7.f c) fun y3 =>
  .ret (decide (y3 ≥ (0:Int)))))
def f (c:Int) := (t c).val
def G (x : D.den) := t x.2
def F (x : D.den) := (G x).val
def pa : D.den -> (Bool) -> A.den := fun (_, _) y1 => ((), y1)
def con : Con := tcon D A pa F
theorem ok : zgu Tryz.prog 116 con := zij Base.mixed Base.prog_ok qa9 (by kernel_rfl) zht.nil 9 (fun _ => rfl) G (fun _ => rfl) fun _ _ _ => (by kernel_rfl)
end q3m
def q3n : Book := qa8.add 116 q3m.con
theorem q3o : zgv Tryz.prog q3n := qa9.add q3m.ok
namespace q3p
def D : Dom := ⟨[], (.int .u8)⟩
def A : Dom := ⟨[], .bool⟩
def t (c:Int) : Tr (Bool) :=
 .br (decide (c > (32:Int))) (.ret (decide (c < (127:Int))))
 (.ret false)
def f (c:Int) := (t c).val
def G (x : D.den) := t x.2
def F (x : D.den) := (G x).val
def pa : D.den -> (Bool) -> A.den := fun (_, _) y1 => ((), y1)
def con : Con := tcon D A pa F
theorem ok : zgu Tryz.prog 91 con := zij Base.mixed Base.prog_ok q3o (by kernel_rfl) zht.nil 9 (fun _ => rfl) G (fun _ => rfl) fun _ _ _ => (by kernel_rfl)
end q3p
def q3q : Book := q3n.add 91 q3p.con
theorem q3r : zgv Tryz.prog q3q := q3o.add q3p.ok
namespace q3g
def D : Dom := ⟨[], (.int .u8)⟩
def A : Dom := ⟨[], (.tup (.cat (.int .i64) .bool))⟩
def t (c:Int) : Tr (Int × Bool) :=
 .call (q3d.f c) fun y1 =>
 .br y1 (.ret (IntKind.i64.wrap (IntKind.u8.wrap (c - (48:Int))), true))
 (.call (q3s.f c) fun y2 =>
  .br y2 (.br (decide (IntKind.u8.wrap (↑(BitVec.ofInt IntKind.u8.bits c ||| BitVec.ofInt IntKind.u8.bits (32:Int)).toNat:Int) <= (102:Int))) (.ret (IntKind.i64.wrap (IntKind.i64.wrap (IntKind.u8.wrap (IntKind.u8.wrap (↑(BitVec.ofInt IntKind.u8.bits c ||| BitVec.ofInt IntKind.u8.bits (32:Int)).toNat:Int) - (97:Int))) + (10:Int)), true))
  (.ret ((0:Int), false)))
  (.ret ((0:Int), false)))
def f (c:Int) := (t c).val
def G (x : D.den) := t x.2
def F (x : D.den) := (G x).val
def pa : D.den -> (Int × Bool) -> A.den := fun (_, _) (y1, y2) => ((), (y1, y2))
def con : Con := tcon D A pa F
theorem ok : zgu Tryz.prog 117 con := zij Base.mixed Base.prog_ok q3r (by kernel_rfl) zht.nil 9 (fun _ => rfl) G (fun _ => rfl) fun _ _ _ => (by kernel_rfl)
end q3g
def q3h : Book := q3q.add 117 q3g.con
theorem q3i : zgv Tryz.prog q3h := q3r.add q3g.ok
namespace q3j
def D : Dom := ⟨[], (.int .u8)⟩
def A : Dom := ⟨[], .bool⟩
def t (c:Int) : Tr (Bool) :=
 .call (q3p.f c) fun y1 =>
 .br y1 (.ret true)
 (.call (q37.f c) fun y2 =>
  .br y2 (.ret true)
  (.ret (decide (c ≥ (128:Int)))))
def f (c:Int) := (t c).val
def G (x : D.den) := t x.2
def F (x : D.den) := (G x).val
def pa : D.den -> (Bool) -> A.den := fun (_, _) y1 => ((), y1)
def con : Con := tcon D A pa F
theorem ok : zgu Tryz.prog 118 con := zij Base.mixed Base.prog_ok q3i (by kernel_rfl) zht.nil 9 (fun _ => rfl) G (fun _ => rfl) fun _ _ _ => (by kernel_rfl)
end q3j
def q3k : Book := q3h.add 118 q3j.con
theorem q3l : zgv Tryz.prog q3k := q3i.add q3j.ok
namespace q3v
def D : Dom := ⟨[], (.cat (.int .u8) (.int .i64))⟩
def A : Dom := ⟨[], .bool⟩
def t (c:Int) (kind:Int) : Tr (Bool) :=
 .br (kind == (1:Int)) (.call (q3m.f c) fun y1 =>
  .ret y1)
 (.br (kind == (2:Int)) (.call (q3p.f c) fun y2 =>
  .ret y2)
  (.br (kind == (3:Int)) (.call (q37.f c) fun y3 =>
   .ret y3)
  (.br (kind == (4:Int)) (.call (q3d.f c) fun y4 =>
   .ret y4)
   (.br (kind == (5:Int)) (.call (q3g.f c) fun (_, y5b) =>
    .ret y5b)
   (.br (kind == (6:Int)) (.call (q3j.f c) fun y6 =>
    .ret y6)
    (.ret false))))))
def f (c:Int) (kind:Int) := (t c kind).val
def G (x : D.den) := t x.2.1 x.2.2
def F (x : D.den) := (G x).val
def pa : D.den -> (Bool) -> A.den := fun (_, (_, _)) y1 => ((), y1)
def con : Con := tcon D A pa F
theorem ok : zgu Tryz.prog 90 con := zij Base.mixed Base.prog_ok q3l (by kernel_rfl) zht.nil 9 (fun _ => rfl) G (fun _ => rfl) fun _ _ _ => (by kernel_rfl)
end q3v
def q3w : Book := q3k.add 90 q3v.con
theorem q3x : zgv Tryz.prog q3w := q3l.add q3v.ok
namespace q34
def D : Dom := ⟨[.vec (.int .i64) 3 true], (.cat .str (.sl 0 1))⟩
namespace L6
def D : Dom := ⟨[.vec (.int .i64) 3 true], (.cat .str (.cat (.sl 0 1) (.cat (.int .i64) (.cat .bool (.cat (.int .i64) (.cat (.int .i64) (.cat (.sl 0 1) (.cat (.int .i64) (.int .i64)))))))))⟩
def A : Dom := ⟨[.vec (.int .i64) 3 true], (.cat .str (.cat (.sl 0 1) (.cat .bool (.cat (.int .i64) (.int .i64)))))⟩
def t (kinds : List Int) (s : Ls) (i:Int) (vis:Bool) (t15:Int) (t16:Int) : Tr ((Bool × Int) ⊕ (Bool)) :=
 .br (decide (t16 < t15)) (.chk ((0:Int) <= t16 ∧ t16 < (↑kinds.length:Int))<|.chk ((0:Nat) + t16.toNat < kinds.length)<|.br vis (.okl kinds.length<|.okl kinds.length<|.ret (.inl (true, IntKind.i64.wrap (t16 + (1:Int)))))
  (.chk ((0:Int) <= i ∧ i < (↑s.length:Int))<|.call (q3v.f (↑(s.getD i.toNat (0:UInt8)).toNat:Int) (kinds.getD ((0:Nat) + t16.toNat) (0:Int))) fun y1 =>
  .okl kinds.length<|.okl kinds.length<|.ret (.inl (y1, IntKind.i64.wrap (t16 + (1:Int))))))
 (.okl kinds.length<|.ret (.inr vis))
def f (kinds : List Int) (s : Ls) (i:Int) (vis:Bool) (t15:Int) (t16:Int) := Loop (fun z : Bool × Int => t kinds s i z.1 t15 z.2) (vis, t16)
def F (x : D.den) := f x.1.1 x.2.1 x.2.2.2.1 x.2.2.2.2.1 x.2.2.2.2.2.2.2.2.1 x.2.2.2.2.2.2.2.2.2
def pa : D.den -> (Bool) -> A.den := fun ((kinds, _), (s, (_, (_, (_, (t10, (t11, (_, (_, _))))))))) y1 => ((kinds, ()), (s, ((), (y1, (t10, t11)))))
def lap : Lap := tlap 6 32 [0, 1, 5, 6, 10, 11, 14, 15, 16] D (.exit 2) [0, 1, 6, 10, 11] A pa F
def pk (x : D.den) (z : Bool × Int) : D.den := ((x.1.1, ()), (x.2.1, ((), (x.2.2.2.1, (z.1, (x.2.2.2.2.2.1, (x.2.2.2.2.2.2.1, ((), (x.2.2.2.2.2.2.2.2.1, z.2)))))))))
def un (x : D.den) := (x.2.2.2.2.1, x.2.2.2.2.2.2.2.2.2)
def body (x : D.den) (z : Bool × Int) := t x.1.1 x.2.1 x.2.2.2.1 z.1 x.2.2.2.2.2.2.2.2.1 z.2
theorem ok : zhe Tryz.prog 1 (codeOf Tryz.prog 71) lap := zil Base.mixed Base.prog_ok q3x (by kernel_rfl) (by kernel_rfl) zht.nil 9 pk un body (fun _ _ => rfl) (fun _ _ => rfl) (fun _ _ => rfl) (fun _ => rfl) fun _ _ _ _ => (by kernel_rfl)
end L6
namespace L2
def D : Dom := ⟨[.vec (.int .i64) 3 true], (.cat .str (.cat (.sl 0 1) (.cat (.int .i64) (.int .i64))))⟩
def A : Dom := ⟨[.vec (.int .i64) 3 true], .nil⟩
def B : Dom := ⟨[.vec (.int .i64) 3 true], .bool⟩
def t (kinds : List Int) (s : Ls) (t10:Int) (t11:Int) : Tr ((Int) ⊕ ((Unit) ⊕ (Bool))) :=
 .br (decide (t11 < t10)) (.okl kinds.length<|.okl kinds.length<|.call (q34.L6.f kinds s t11 false (↑kinds.length:Int) (0:Int)) fun y1 =>
  .br (!y1) (.ret (.inr (.inr false)))
  (.okl kinds.length<|.ret (.inl (IntKind.i64.wrap (t11 + (1:Int))))))
 (.ret (.inr (.inl ())))
def f (kinds : List Int) (s : Ls) (t10:Int) (t11:Int) := Loop (fun z : Int => t kinds s t10 z) t11
def F (x : D.den) := f x.1.1 x.2.1 x.2.2.2.1 x.2.2.2.2
def pa : D.den -> (Unit) -> A.den := fun ((kinds, _), (_, (_, (_, _)))) _ => ((kinds, ()), ())
def pb : D.den -> (Bool) -> B.den := fun ((kinds, _), (_, (_, (_, _)))) y1 => ((kinds, ()), y1)
def lap : Lap := zim 2 32 [0, 1, 10, 11] D (.exit 0) [] A .ret [4] B pa pb F
def pk (x : D.den) (z:Int) : D.den := ((x.1.1, ()), (x.2.1, ((), (x.2.2.2.1, z))))
def un (x : D.den) := x.2.2.2.2
def body (x : D.den) (z:Int) := t x.1.1 x.2.1 x.2.2.2.1 z
theorem ok : zhe Tryz.prog 1 (codeOf Tryz.prog 71) lap := zin Base.mixed Base.prog_ok q3x (by kernel_rfl) (by kernel_rfl) (.cons L6.ok (by kernel_rfl) (.nil)) 9 pk un body (fun _ _ => rfl) (fun _ _ => rfl) (fun _ _ => rfl) (fun _ _ => rfl) (fun _ => rfl) fun _ _ _ _ => (by kernel_rfl)
end L2
def A : Dom := ⟨[.vec (.int .i64) 3 true], .bool⟩
def t (kinds : List Int) (s : Ls) : Tr (Bool) :=
 .okl kinds.length<|.both (q34.L2.f kinds s (↑s.length:Int) (0:Int)) (fun _ => .ret true)
 (fun y2 => .ret y2)
def f (kinds : List Int) (s : Ls) := (t kinds s).val
def G (x : D.den) := t x.1.1 x.2.1
def F (x : D.den) := (G x).val
def pa : D.den -> (Bool) -> A.den := fun ((kinds, _), (_, _)) y1 => ((kinds, ()), y1)
def con : Con := tcon D A pa F
theorem ok : zgu Tryz.prog 71 con := zij Base.mixed Base.prog_ok q3x (by kernel_rfl) (.cons L6.ok (by kernel_rfl) (.cons L2.ok (by kernel_rfl) (.nil))) 9 (fun _ => rfl) G (fun _ => rfl) fun _ _ _ => (by kernel_rfl)
end q34
def q35 : Book := q3w.add 71 q34.con
theorem q36 : zgv Tryz.prog q35 := q3x.add q34.ok
namespace q3a
def D : Dom := ⟨[], (.int .u8)⟩
def A : Dom := ⟨[], .bool⟩
def t (c:Int) : Tr (Bool) :=
 .br (decide (c < (32:Int))) (.ret true)
 (.ret (c == (127:Int)))
def f (c:Int) := (t c).val
def G (x : D.den) := t x.2
def F (x : D.den) := (G x).val
def pa : D.den -> (Bool) -> A.den := fun (_, _) y1 => ((), y1)
def con : Con := tcon D A pa F
theorem ok : zgu Tryz.prog 92 con := zij Base.mixed Base.prog_ok q36 (by kernel_rfl) zht.nil 9 (fun _ => rfl) G (fun _ => rfl) fun _ _ _ => (by kernel_rfl)
end q3a
def q3b : Book := q35.add 92 q3a.con
theorem q3c : zgv Tryz.prog q3b := q36.add q3a.ok
namespace q31
def D : Dom := ⟨[], (.cat .str (.cat (.int .i64) (.cat (.int .i64) (.int .i64))))⟩
namespace L6
def D : Dom := ⟨[], (.cat .str (.cat (.int .i64) (.cat (.int .i64) (.cat (.int .i64) (.cat (.int .i64) (.int .i64))))))⟩
def A : Dom := ⟨[], (.int .i64)⟩
def B : Dom := ⟨[], (.cat (.int .i64) (.int .i64))⟩
def t (s : Ls) (base:Int) (most:Int) (n:Int) (t26:Int) (t27:Int) : Tr ((Int × Int) ⊕ ((Int) ⊕ (Int × Int))) :=
 .br (decide (t27 < t26)) (.chk ((0:Int) <= t27 ∧ t27 < (↑s.length:Int))<|.call (q3g.f (↑(s.getD t27.toNat (0:UInt8)).toNat:Int)) fun (y1a, _) =>
  .br (decide (y1a > most)) (.ret (.inr (.inr ((0:Int), (23:Int)))))
  (.chk (base ≠ (0:Int))<|.br (decide (n > IntKind.i64.wrap ((IntKind.i64.wrap (most - y1a)).tdiv base))) (.ret (.inr (.inr ((0:Int), (23:Int)))))
  (.ret (.inl (IntKind.i64.wrap (IntKind.i64.wrap (n * base) + y1a), IntKind.i64.wrap (t27 + (1:Int)))))))
 (.ret (.inr (.inl n)))
def f (s : Ls) (base:Int) (most:Int) (n:Int) (t26:Int) (t27:Int) := Loop (fun z : Int × Int => t s base most z.1 t26 z.2) (n, t27)
def F (x : D.den) := f x.2.1 x.2.2.1 x.2.2.2.1 x.2.2.2.2.1 x.2.2.2.2.2.1 x.2.2.2.2.2.2
def pa : D.den -> (Int) -> A.den := fun (_, (_, (_, (_, (_, (_, _)))))) y1 => ((), y1)
def pb : D.den -> (Int × Int) -> B.den := fun (_, (_, (_, (_, (_, (_, _)))))) (y1, y2) => ((), (y1, y2))
def lap : Lap := zim 6 56 [0, 1, 2, 10, 26, 27] D (.exit 0) [10] A .ret [8, 9] B pa pb F
def pk (x : D.den) (z : Int × Int) : D.den := ((), (x.2.1, (x.2.2.1, (x.2.2.2.1, (z.1, (x.2.2.2.2.2.1, z.2))))))
def un (x : D.den) := (x.2.2.2.2.1, x.2.2.2.2.2.2)
def body (x : D.den) (z : Int × Int) := t x.2.1 x.2.2.1 x.2.2.2.1 z.1 x.2.2.2.2.2.1 z.2
theorem ok : zhe Tryz.prog 0 (codeOf Tryz.prog 114) lap := zin Base.mixed Base.prog_ok q3c (by kernel_rfl) (by kernel_rfl) zht.nil 9 pk un body (fun _ _ => rfl) (fun _ _ => rfl) (fun _ _ => rfl) (fun _ _ => rfl) (fun _ => rfl) fun _ _ _ _ => (by kernel_rfl)
end L6
def A : Dom := ⟨[], (.tup (.cat (.int .i64) (.int .i64)))⟩
def t (s : Ls) (base:Int) (most:Int) (kind:Int) : Tr (Int × Int) :=
 .br (s == []) (.ret ((0:Int), (22:Int)))
 (.call (q34.f [kind] s) fun y1 =>
  .br (!y1) (.ret ((0:Int), (22:Int)))
  (.both (q31.L6.f s base (mx2 most (0:Int)) (0:Int) (↑s.length:Int) (0:Int)) (fun y2 => .ret (y2, (0:Int)))
  (fun (y3a, y3b) => .ret (y3a, y3b))))
def f (s : Ls) (base:Int) (most:Int) (kind:Int) := (t s base most kind).val
def G (x : D.den) := t x.2.1 x.2.2.1 x.2.2.2.1 x.2.2.2.2
def F (x : D.den) := (G x).val
def pa : D.den -> (Int × Int) -> A.den := fun (_, (_, (_, (_, _)))) (y1, y2) => ((), (y1, y2))
def con : Con := tcon D A pa F
theorem ok : zgu Tryz.prog 114 con := zij Base.mixed Base.prog_ok q3c (by kernel_rfl) (.cons L6.ok (by kernel_rfl) (.nil)) 9 (fun _ => rfl) G (fun _ => rfl) fun _ _ _ => (by kernel_rfl)
end q31
def q32 : Book := q3b.add 114 q31.con
theorem q33 : zgv Tryz.prog q32 := q3c.add q31.ok
namespace q2v
def D : Dom := ⟨[], (.cat .str (.int .i64))⟩
def A : Dom := ⟨[], (.tup (.cat (.int .i64) (.int .i64)))⟩
def t (s : Ls) (most:Int) : Tr (Int × Int) :=
 .call (q31.f s (10:Int) most (4:Int)) fun (y1a, y1b) =>
 .ret (y1a, y1b)
def f (s : Ls) (most:Int) := (t s most).val
def G (x : D.den) := t x.2.1 x.2.2
def F (x : D.den) := (G x).val
def pa : D.den -> (Int × Int) -> A.den := fun (_, (_, _)) (y1, y2) => ((), (y1, y2))
def con : Con := tcon D A pa F
theorem ok : zgu Tryz.prog 105 con := zij Base.mixed Base.prog_ok q33 (by kernel_rfl) zht.nil 9 (fun _ => rfl) G (fun _ => rfl) fun _ _ _ => (by kernel_rfl)
end q2v
def q2w : Book := q32.add 105 q2v.con
theorem q2x : zgv Tryz.prog q2w := q33.add q2v.ok
namespace qa4
def D : Dom := ⟨[], (.cat .str (.int .u8))⟩
def A : Dom := ⟨[], (.int .i64)⟩
def t (s : Ls) (c:Int) : Tr (Int) :=
 .call (q97.f s c) fun y1 =>
 .ret y1
def f (s : Ls) (c:Int) := (t s c).val
def G (x : D.den) := t x.2.1 x.2.2
def F (x : D.den) := (G x).val
def pa : D.den -> (Int) -> A.den := fun (_, (_, _)) y1 => ((), y1)
def con : Con := tcon D A pa F
theorem ok : zgu Tryz.prog 125 con := zij Base.mixed Base.prog_ok q2x (by kernel_rfl) zht.nil 9 (fun _ => rfl) G (fun _ => rfl) fun _ _ _ => (by kernel_rfl)
end qa4
def qa5 : Book := q2w.add 125 qa4.con
theorem qa6 : zgv Tryz.prog qa5 := q2x.add qa4.ok
namespace qbg
def D : Dom := ⟨[], (.cat .str (.cat .str .bool))⟩
namespace L2
def D : Dom := ⟨[], (.cat .str (.cat .str (.cat .bool (.int .i64))))⟩
def A : Dom := ⟨[], .nil⟩
def B : Dom := ⟨[], .bool⟩
def t (s : Ls) (others : Ls) (percent:Bool) (i:Int) : Tr ((Int) ⊕ ((Unit) ⊕ (Bool))) :=
 .br (decide (i < (↑s.length:Int))) (.chk ((0:Int) <= i ∧ i < (↑s.length:Int))<|.call (q3d.f (↑(s.getD i.toNat (0:UInt8)).toNat:Int)) fun y1 =>
  .br y1 (.ret (.inl (IntKind.i64.wrap (i + (1:Int)))))
  (.br (decide (IntKind.u8.wrap (↑(BitVec.ofInt IntKind.u8.bits (↑(s.getD i.toNat (0:UInt8)).toNat:Int) ||| BitVec.ofInt IntKind.u8.bits (32:Int)).toNat:Int) ≥ (97:Int))) (.br (decide (IntKind.u8.wrap (↑(BitVec.ofInt IntKind.u8.bits (↑(s.getD i.toNat (0:UInt8)).toNat:Int) ||| BitVec.ofInt IntKind.u8.bits (32:Int)).toNat:Int) <= (122:Int))) (.ret (.inl (IntKind.i64.wrap (i + (1:Int)))))
   (.call (qa4.f others (↑(s.getD i.toNat (0:UInt8)).toNat:Int)) fun y2 =>
   .br (decide (y2 ≥ (0:Int))) (.ret (.inl (IntKind.i64.wrap (i + (1:Int)))))
   (.br percent (.br ((↑(s.getD i.toNat (0:UInt8)).toNat:Int) == (37:Int)) (.br (decide (IntKind.i64.wrap (i + (2:Int)) < (↑s.length:Int))) (.chk ((0:Int) <= IntKind.i64.wrap (i + (1:Int)) ∧ IntKind.i64.wrap (i + (1:Int)) <= IntKind.i64.wrap (i + (3:Int)) ∧ IntKind.i64.wrap (i + (3:Int)) <= (↑s.length:Int))<|.call (q34.f [(5:Int)] (List.drop (IntKind.i64.wrap (i + (1:Int))).toNat (List.take (IntKind.i64.wrap (i + (3:Int))).toNat s))) fun y3 =>
     .br y3 (.ret (.inl (IntKind.i64.wrap (IntKind.i64.wrap (i + (2:Int)) + (1:Int)))))
     (.ret (.inr (.inr false))))
     (.ret (.inr (.inr false))))
    (.ret (.inr (.inr false))))
    (.ret (.inr (.inr false))))))
  (.call (qa4.f others (↑(s.getD i.toNat (0:UInt8)).toNat:Int)) fun y4 =>
   .br (decide (y4 ≥ (0:Int))) (.ret (.inl (IntKind.i64.wrap (i + (1:Int)))))
   (.br percent (.br ((↑(s.getD i.toNat (0:UInt8)).toNat:Int) == (37:Int)) (.br (decide (IntKind.i64.wrap (i + (2:Int)) < (↑s.length:Int))) (.chk ((0:Int) <= IntKind.i64.wrap (i + (1:Int)) ∧ IntKind.i64.wrap (i + (1:Int)) <= IntKind.i64.wrap (i + (3:Int)) ∧ IntKind.i64.wrap (i + (3:Int)) <= (↑s.length:Int))<|.call (q34.f [(5:Int)] (List.drop (IntKind.i64.wrap (i + (1:Int))).toNat (List.take (IntKind.i64.wrap (i + (3:Int))).toNat s))) fun y5 =>
     .br y5 (.ret (.inl (IntKind.i64.wrap (IntKind.i64.wrap (i + (2:Int)) + (1:Int)))))
     (.ret (.inr (.inr false))))
    (.ret (.inr (.inr false))))
    (.ret (.inr (.inr false))))
   (.ret (.inr (.inr false)))))))
 (.ret (.inr (.inl ())))
def f (s : Ls) (others : Ls) (percent:Bool) (i:Int) := Loop (fun z : Int => t s others percent z) i
def F (x : D.den) := f x.2.1 x.2.2.1 x.2.2.2.1 x.2.2.2.2
def pa : D.den -> (Unit) -> A.den := fun (_, (_, (_, (_, _)))) _ => ((), ())
def pb : D.den -> (Bool) -> B.den := fun (_, (_, (_, (_, _)))) y1 => ((), y1)
def lap : Lap := zim 2 62 [0, 1, 2, 7] D (.exit 0) [] A .ret [6] B pa pb F
def pk (x : D.den) (z:Int) : D.den := ((), (x.2.1, (x.2.2.1, (x.2.2.2.1, z))))
def un (x : D.den) := x.2.2.2.2
def body (x : D.den) (z:Int) := t x.2.1 x.2.2.1 x.2.2.2.1 z
theorem ok : zhe Tryz.prog 0 (codeOf Tryz.prog 123) lap := zin Base.mixed Base.prog_ok qa6 (by kernel_rfl) (by kernel_rfl) zht.nil 9 pk un body (fun _ _ => rfl) (fun _ _ => rfl) (fun _ _ => rfl) (fun _ _ => rfl) (fun _ => rfl) fun _ _ _ _ => (by kernel_rfl)
end L2
def A : Dom := ⟨[], .bool⟩
def t (s : Ls) (others : Ls) (percent:Bool) : Tr (Bool) :=
 .both (qbg.L2.f s others percent (0:Int)) (fun _ => .ret true)
 (fun y2 => .ret y2)
def f (s : Ls) (others : Ls) (percent:Bool) := (t s others percent).val
def G (x : D.den) := t x.2.1 x.2.2.1 x.2.2.2
def F (x : D.den) := (G x).val
def pa : D.den -> (Bool) -> A.den := fun (_, (_, (_, _))) y1 => ((), y1)
def con : Con := tcon D A pa F
theorem ok : zgu Tryz.prog 123 con := zij Base.mixed Base.prog_ok qa6 (by kernel_rfl) (.cons L2.ok (by kernel_rfl) (.nil)) 9 (fun _ => rfl) G (fun _ => rfl) fun _ _ _ => (by kernel_rfl)
end qbg
def qbh : Book := qa5.add 123 qbg.con
theorem qbi : zgv Tryz.prog qbh := qa6.add qbg.ok
namespace q1x
def D : Dom := ⟨[], (.cat .str (.lit (.str false [58])))⟩
def A : Dom := ⟨[], (.int .i64)⟩
def t (s : Ls) : Tr (Int) :=
 .br ([(58:UInt8)] == s) (.ret (0:Int))
 (.call (q97.f s (58:Int)) fun y1 =>
  .ret y1)
def f (s : Ls) := (t s).val
def G (x : D.den) := t x.2.1
def F (x : D.den) := (G x).val
def pa : D.den -> (Int) -> A.den := fun (_, (_, _)) y1 => ((), y1)
def con : Con := tcon D A pa F
theorem ok : zgu Tryz.prog 127 con := zij Base.mixed Base.prog_ok qbi (by kernel_rfl) zht.nil 9 (fun _ => rfl) G (fun _ => rfl) fun _ _ _ => (by kernel_rfl)
end q1x
def q1y : Book := qbh.addS 127 (fun a => ziq 1 [58] a) q1x.con
theorem q1z : zgv Tryz.prog q1y := qbi.addS q1x.ok
namespace q16
def D : Dom := ⟨[], (.cat .str (.lit (.str false [58])))⟩
def A : Dom := ⟨[], (.tup (.cat .str (.cat .str .bool)))⟩
abbrev Rt := Ls × Ls × Bool
def t (s : Ls) : Tr Rt :=
 .call (q1x.f s) fun y1 =>
 .br (decide (y1 ≥ (0:Int))) (.chk ((0:Int) <= (0:Int) ∧ (0:Int) <= y1 ∧ y1 <= (↑s.length:Int))<|.chk ((0:Int) <= IntKind.i64.wrap (y1 + (1:Int)) ∧ IntKind.i64.wrap (y1 + (1:Int)) <= (↑s.length:Int) ∧ (↑s.length:Int) <= (↑s.length:Int))<|.ret (List.drop (↑(0:Nat):Int).toNat (List.take y1.toNat s), List.drop (IntKind.i64.wrap (y1 + (1:Int))).toNat (List.take (↑s.length:Int).toNat s), true))
 (.ret (s, [], false))
def f (s : Ls) := (t s).val
def G (x : D.den) := t x.2.1
def F (x : D.den) := (G x).val
def pa : D.den -> Rt -> A.den := fun (_, (_, _)) (y1, y2, y3) => ((), (y1, (y2, y3)))
def con : Con := tcon D A pa F
theorem ok : zgu Tryz.prog 108 con := zij Base.mixed Base.prog_ok q1z (by kernel_rfl) zht.nil 9 (fun _ => rfl) G (fun _ => rfl) fun _ _ _ => (by kernel_rfl)
end q16
def q17 : Book := q1y.addS 108 (fun a => ziq 1 [58] a) q16.con
theorem q18 : zgv Tryz.prog q17 := q1z.addS q16.ok
namespace q9g
def D : Dom := ⟨[], (.cat .str (.lit (.str false [58])))⟩
def A : Dom := ⟨[], (.tup (.cat .str (.cat .str .bool)))⟩
abbrev Rt := Ls × Ls × Bool
def t (s : Ls) : Tr Rt :=
 .call (q16.f s) fun (y1a, y1b, y1c) =>
 .ret (y1a, y1b, y1c)
def f (s : Ls) := (t s).val
def G (x : D.den) := t x.2.1
def F (x : D.den) := (G x).val
def pa : D.den -> Rt -> A.den := fun (_, (_, _)) (y1, y2, y3) => ((), (y1, (y2, y3)))
def con : Con := tcon D A pa F
theorem ok : zgu Tryz.prog 81 con := zij Base.mixed Base.prog_ok q18 (by kernel_rfl) zht.nil 9 (fun _ => rfl) G (fun _ => rfl) fun _ _ _ => (by kernel_rfl)
end q9g
def q9h : Book := q17.addS 81 (fun a => ziq 1 [58] a) q9g.con
theorem q9i : zgv Tryz.prog q9h := q18.addS q9g.ok
namespace qb1
def D : Dom := ⟨[], .str⟩
def A : Dom := ⟨[], .bool⟩
def t (s : Ls) : Tr (Bool) :=
 .call (q9g.f s) fun (y1a, y1b, y1c) =>
 .br y1c (.call (q2v.f y1b (65535:Int)) fun (_, y2b) =>
  .br (y2b != (0:Int)) (.ret false)
  (.br (decide ((↑y1b.length:Int) > (5:Int))) (.ret false)
  (.br (!y1a == []) (.br (decide ((↑y1a.length:Int) <= (255:Int))) (.call (qbg.f y1a [(45:UInt8), 46, 95, 126] false) fun y3 =>
    .ret y3)
   (.ret false))
   (.ret false))))
 (.br (!y1a == []) (.br (decide ((↑y1a.length:Int) <= (255:Int))) (.call (qbg.f y1a [(45:UInt8), 46, 95, 126] false) fun y4 =>
   .ret y4)
  (.ret false))
  (.ret false))
def f (s : Ls) := (t s).val
def G (x : D.den) := t x.2
def F (x : D.den) := (G x).val
def pa : D.den -> (Bool) -> A.den := fun (_, _) y1 => ((), y1)
def con : Con := tcon D A pa F
theorem ok : zgu Tryz.prog 98 con := zij Base.mixed Base.prog_ok q9i (by kernel_rfl) zht.nil 9 (fun _ => rfl) G (fun _ => rfl) fun _ _ _ => (by kernel_rfl)
end qb1
def qb2 : Book := q9h.add 98 qb1.con
theorem qb3 : zgv Tryz.prog qb2 := q9i.add qb1.ok
namespace q1o
def D : Dom := ⟨[], (.cat .str (.lit (.str false [47])))⟩
def A : Dom := ⟨[], .bool⟩
def t (s : Ls) : Tr (Bool) :=
 .br (decide ((↑s.length:Int) ≥ (1:Int))) (.chk ((0:Int) <= (0:Int) ∧ (0:Int) <= (1:Int) ∧ (1:Int) <= (↑s.length:Int))<|.ret (List.drop (↑(0:Nat):Int).toNat (List.take (Int.toNat (1:Int)) s) == [(47:UInt8)]))
 (.ret false)
def f (s : Ls) := (t s).val
def G (x : D.den) := t x.2.1
def F (x : D.den) := (G x).val
def pa : D.den -> (Bool) -> A.den := fun (_, (_, _)) y1 => ((), y1)
def con : Con := tcon D A pa F
theorem ok : zgu Tryz.prog 113 con := zij Base.mixed Base.prog_ok qb3 (by kernel_rfl) zht.nil 9 (fun _ => rfl) G (fun _ => rfl) fun _ _ _ => (by kernel_rfl)
end q1o
def q1p : Book := qb2.addS 113 (fun a => ziq 1 [47] a) q1o.con
theorem q1q : zgv Tryz.prog q1p := qb3.addS q1o.ok
namespace q9y
def D : Dom := ⟨[], (.cat .str (.lit (.str false [47])))⟩
def A : Dom := ⟨[], .bool⟩
def t (s : Ls) : Tr (Bool) :=
 .call (q1o.f s) fun y1 =>
 .ret y1
def f (s : Ls) := (t s).val
def G (x : D.den) := t x.2.1
def F (x : D.den) := (G x).val
def pa : D.den -> (Bool) -> A.den := fun (_, (_, _)) y1 => ((), y1)
def con : Con := tcon D A pa F
theorem ok : zgu Tryz.prog 84 con := zij Base.mixed Base.prog_ok q1q (by kernel_rfl) zht.nil 9 (fun _ => rfl) G (fun _ => rfl) fun _ _ _ => (by kernel_rfl)
end q9y
def q9z : Book := q1p.addS 84 (fun a => ziq 1 [47] a) q9y.con
theorem qa0 : zgv Tryz.prog q9z := q1q.addS q9y.ok
namespace qb7
def D : Dom := ⟨[], .str⟩
def A : Dom := ⟨[], .bool⟩
def t (s : Ls) : Tr (Bool) :=
 .call (q9y.f s) fun y1 =>
 .br y1 (.call (qbg.f s [(45:UInt8), 46, 95, 126, 33, 36, 38, 39, 40, 41, 42, 43, 44, 59, 61, 58, 64, 47] true) fun y2 =>
  .ret y2)
 (.ret false)
def f (s : Ls) := (t s).val
def G (x : D.den) := t x.2
def F (x : D.den) := (G x).val
def pa : D.den -> (Bool) -> A.den := fun (_, _) y1 => ((), y1)
def con : Con := tcon D A pa F
theorem ok : zgu Tryz.prog 135 con := zij Base.mixed Base.prog_ok qa0 (by kernel_rfl) zht.nil 9 (fun _ => rfl) G (fun _ => rfl) fun _ _ _ => (by kernel_rfl)
end qb7
def qb8 : Book := q9z.add 135 qb7.con
theorem qb9 : zgv Tryz.prog qb8 := qa0.add qb7.ok
namespace qba
def D : Dom := ⟨[], .str⟩
def A : Dom := ⟨[], .bool⟩
def t (s : Ls) : Tr (Bool) :=
 .call (qbg.f s [(45:UInt8), 46, 95, 126, 33, 36, 38, 39, 40, 41, 42, 43, 44, 59, 61, 58, 64, 47, 63] true) fun y1 =>
 .ret y1
def f (s : Ls) := (t s).val
def G (x : D.den) := t x.2
def F (x : D.den) := (G x).val
def pa : D.den -> (Bool) -> A.den := fun (_, _) y1 => ((), y1)
def con : Con := tcon D A pa F
theorem ok : zgu Tryz.prog 136 con := zij Base.mixed Base.prog_ok qb9 (by kernel_rfl) zht.nil 9 (fun _ => rfl) G (fun _ => rfl) fun _ _ _ => (by kernel_rfl)
end qba
def qbb : Book := qb8.add 136 qba.con
theorem qbc : zgv Tryz.prog qbb := qb9.add qba.ok
namespace q23
def D : Dom := ⟨[], (.cat .str (.lit (.str false [63])))⟩
def A : Dom := ⟨[], (.int .i64)⟩
def t (s : Ls) : Tr (Int) :=
 .br ([(63:UInt8)] == s) (.ret (0:Int))
 (.call (q97.f s (63:Int)) fun y1 =>
  .ret y1)
def f (s : Ls) := (t s).val
def G (x : D.den) := t x.2.1
def F (x : D.den) := (G x).val
def pa : D.den -> (Int) -> A.den := fun (_, (_, _)) y1 => ((), y1)
def con : Con := tcon D A pa F
theorem ok : zgu Tryz.prog 127 con := zij Base.mixed Base.prog_ok qbc (by kernel_rfl) zht.nil 9 (fun _ => rfl) G (fun _ => rfl) fun _ _ _ => (by kernel_rfl)
end q23
def q24 : Book := qbb.addS 127 (fun a => ziq 1 [63] a) q23.con
theorem q25 : zgv Tryz.prog q24 := qbc.addS q23.ok
namespace q1c
def D : Dom := ⟨[], (.cat .str (.lit (.str false [63])))⟩
def A : Dom := ⟨[], (.tup (.cat .str (.cat .str .bool)))⟩
abbrev Rt := Ls × Ls × Bool
def t (s : Ls) : Tr Rt :=
 .call (q23.f s) fun y1 =>
 .br (decide (y1 ≥ (0:Int))) (.chk ((0:Int) <= (0:Int) ∧ (0:Int) <= y1 ∧ y1 <= (↑s.length:Int))<|.chk ((0:Int) <= IntKind.i64.wrap (y1 + (1:Int)) ∧ IntKind.i64.wrap (y1 + (1:Int)) <= (↑s.length:Int) ∧ (↑s.length:Int) <= (↑s.length:Int))<|.ret (List.drop (↑(0:Nat):Int).toNat (List.take y1.toNat s), List.drop (IntKind.i64.wrap (y1 + (1:Int))).toNat (List.take (↑s.length:Int).toNat s), true))
 (.ret (s, [], false))
def f (s : Ls) := (t s).val
def G (x : D.den) := t x.2.1
def F (x : D.den) := (G x).val
def pa : D.den -> Rt -> A.den := fun (_, (_, _)) (y1, y2, y3) => ((), (y1, (y2, y3)))
def con : Con := tcon D A pa F
theorem ok : zgu Tryz.prog 108 con := zij Base.mixed Base.prog_ok q25 (by kernel_rfl) zht.nil 9 (fun _ => rfl) G (fun _ => rfl) fun _ _ _ => (by kernel_rfl)
end q1c
def q1d : Book := q24.addS 108 (fun a => ziq 1 [63] a) q1c.con
theorem q1e : zgv Tryz.prog q1d := q25.addS q1c.ok
namespace q9m
def D : Dom := ⟨[], (.cat .str (.lit (.str false [63])))⟩
def A : Dom := ⟨[], (.tup (.cat .str (.cat .str .bool)))⟩
abbrev Rt := Ls × Ls × Bool
def t (s : Ls) : Tr Rt :=
 .call (q1c.f s) fun (y1a, y1b, y1c) =>
 .ret (y1a, y1b, y1c)
def f (s : Ls) := (t s).val
def G (x : D.den) := t x.2.1
def F (x : D.den) := (G x).val
def pa : D.den -> Rt -> A.den := fun (_, (_, _)) (y1, y2, y3) => ((), (y1, (y2, y3)))
def con : Con := tcon D A pa F
theorem ok : zgu Tryz.prog 81 con := zij Base.mixed Base.prog_ok q1e (by kernel_rfl) zht.nil 9 (fun _ => rfl) G (fun _ => rfl) fun _ _ _ => (by kernel_rfl)
end q9m
def q9n : Book := q1d.addS 81 (fun a => ziq 1 [63] a) q9m.con
theorem q9o : zgv Tryz.prog q9n := q1e.addS q9m.ok
end Go.Vx
end
section
set_option maxRecDepth 1000000
set_option maxHeartbeats 4000000
set_option synthInstance.maxSize 100000
set_option synthInstance.maxHeartbeats 400000
namespace Go.Vx
open Go Go.Vx Go.Proofs
namespace qbd
def D : Dom := ⟨[], (.cat (.int .i64) (.cat .str .str))⟩
def A : Dom := ⟨[], (.tup (.cat (.agg (.cat (.int .i64) (.cat .str (.cat .str (.cat .str .bool))))) (.int .i64)))⟩
abbrev Rt := Int × Ls × Ls × Ls × Bool × Int
def t (form:Int) (host : Ls) (s : Ls) : Tr Rt :=
 .call (q9m.f s) fun (y1a, y1b, y1c) =>
 .br (form == (2:Int)) (.br (y1a == []) (.call (qb7.f [(47:UInt8)]) fun y2 =>
  .br (!y2) (.ret ((0:Int), [], [], [], false, (400:Int)))
  (.call (qba.f y1b) fun y3 =>
   .br (!y3) (.ret ((0:Int), [], [], [], false, (400:Int)))
   (.ret (form, host, [(47:UInt8)], y1b, y1c, (0:Int)))))
  (.call (qb7.f y1a) fun y4 =>
  .br (!y4) (.ret ((0:Int), [], [], [], false, (400:Int)))
  (.call (qba.f y1b) fun y5 =>
   .br (!y5) (.ret ((0:Int), [], [], [], false, (400:Int)))
   (.ret (form, host, y1a, y1b, y1c, (0:Int))))))
 (.call (qb7.f y1a) fun y6 =>
  .br (!y6) (.ret ((0:Int), [], [], [], false, (400:Int)))
  (.call (qba.f y1b) fun y7 =>
  .br (!y7) (.ret ((0:Int), [], [], [], false, (400:Int)))
  (.ret (form, host, y1a, y1b, y1c, (0:Int)))))
def f (form:Int) (host : Ls) (s : Ls) := (t form host s).val
def G (x : D.den) := t x.2.1 x.2.2.1 x.2.2.2
def F (x : D.den) := (G x).val
def pa : D.den -> Rt -> A.den := fun (_, (_, (_, _))) (y1, y2, y3, y4, y5, y6) => ((), ((y1, (y2, (y3, (y4, y5)))), y6))
def con : Con := tcon D A pa F
theorem ok : zgu Tryz.prog 120 con := zij Base.mixed Base.prog_ok q9o (by kernel_rfl) zht.nil 9 (fun _ => rfl) G (fun _ => rfl) fun _ _ _ => (by kernel_rfl)
end qbd
def qbe : Book := q9n.add 120 qbd.con
theorem qbf : zgv Tryz.prog qbe := q9o.add qbd.ok
namespace qbs
def D : Dom := ⟨[], .str⟩
namespace L3
def D : Dom := ⟨[.vec .byte 5 false], (.cat (.sl 0 1) (.cat (.sl 0 1) (.cat (.int .i64) (.int .i64))))⟩
def A : Dom := ⟨[.vec .byte 5 false], (.sl 0 1)⟩
abbrev Zt := Ls × Int
def t (b : Ls) (t9:Int) (t10:Int) : Tr (Zt ⊕ (Ls)) :=
 .br (decide (t10 < t9)) (.chk ((0:Int) <= t10 ∧ t10 < (↑b.length:Int))<|.chk ((0:Nat) + t10.toNat < b.length)<|.br (decide ((↑(UInt8.toNat (b.getD ((0:Nat) + t10.toNat) (0:UInt8))):Int) ≥ (65:Int))) (.br (decide ((↑(UInt8.toNat (b.getD ((0:Nat) + t10.toNat) (0:UInt8))):Int) <= (90:Int))) (.chk ((0:Int) <= t10 ∧ t10 < (↑b.length:Int))<|.chk ((0:Nat) + t10.toNat < b.length)<|.chk ((0:Int) <= IntKind.u8.wrap (IntKind.u8.wrap ((↑(UInt8.toNat (b.getD ((0:Nat) + t10.toNat) (0:UInt8))):Int) + (97:Int)) - (65:Int)) ∧ IntKind.u8.wrap (IntKind.u8.wrap ((↑(UInt8.toNat (b.getD ((0:Nat) + t10.toNat) (0:UInt8))):Int) + (97:Int)) - (65:Int)) < (256:Int))<|.okl b.length<|.chk ((0:Nat) = (0:Nat) ∧ b.length = (b.set ((0:Nat) + t10.toNat) (UInt8.ofNat (IntKind.u8.wrap (IntKind.u8.wrap ((↑(UInt8.toNat (b.getD ((0:Nat) + t10.toNat) (0:UInt8))):Int) + (97:Int)) - (65:Int))).toNat)).length)<|.ret (.inl (b.set ((0:Nat) + t10.toNat) (UInt8.ofNat (IntKind.u8.wrap (IntKind.u8.wrap ((↑(UInt8.toNat (b.getD ((0:Nat) + t10.toNat) (0:UInt8))):Int) + (97:Int)) - (65:Int))).toNat), IntKind.i64.wrap (t10 + (1:Int)))))
  (.okl b.length<|.okl b.length<|.ret (.inl (b, IntKind.i64.wrap (t10 + (1:Int))))))
  (.okl b.length<|.okl b.length<|.ret (.inl (b, IntKind.i64.wrap (t10 + (1:Int))))))
 (.okl b.length<|.ret (.inr b))
def f (b : Ls) (t9:Int) (t10:Int) := Loop (fun z : Zt => t z.1 t9 z.2) (b, t10)
def F (x : D.den) := f x.1.1 x.2.2.2.1 x.2.2.2.2
def pa : D.den -> (Ls) -> A.den := fun ((_, _), (_, (_, (_, _)))) y1 => ((y1, ()), ())
def lap : Lap := tlap 3 30 [3, 8, 9, 10] D (.exit 0) [3] A pa F
def pk (x : D.den) (z : Zt) : D.den := ((z.1, ()), ((), ((), (x.2.2.2.1, z.2))))
def un (x : D.den) := (x.1.1, x.2.2.2.2)
def body (x : D.den) (z : Zt) := t z.1 x.2.2.2.1 z.2
theorem ok : zhe Tryz.prog 0 (codeOf Tryz.prog 101) lap := zil Base.mixed Base.prog_ok qbf (by kernel_rfl) (by kernel_rfl) zht.nil 9 pk un body (fun _ _ => rfl) (fun _ _ => rfl) (fun _ _ => rfl) (fun _ => rfl) fun _ _ _ _ => (by kernel_rfl)
end L3
def A : Dom := ⟨[], .str⟩
def t (s : Ls) : Tr (Ls) :=
 .chk (s.length <= (140737488355328:Nat))<|.okl s.length<|.chk ((0:Nat) = (0:Nat) ∧ s.length = ([] ++ s).length)<|.call (qbs.L3.f ([] ++ s) (↑s.length:Int) (0:Int)) fun y1 =>
 .chk ((0:Nat) + y1.length <= y1.length)<|.ret (List.take y1.length (List.drop (0:Nat) y1))
def f (s : Ls) := (t s).val
def G (x : D.den) := t x.2
def F (x : D.den) := (G x).val
def pa : D.den -> (Ls) -> A.den := fun (_, _) y1 => ((), y1)
def con : Con := tcon D A pa F
theorem ok : zgu Tryz.prog 101 con := zij Base.mixed Base.prog_ok qbf (by kernel_rfl) (.cons L3.ok (by kernel_rfl) (.nil)) 9 (fun _ => rfl) G (fun _ => rfl) fun _ _ _ => (by kernel_rfl)
end qbs
def qbt : Book := qbe.add 101 qbs.con
theorem qbu : zgv Tryz.prog qbt := qbf.add qbs.ok
namespace qbv
def D : Dom := ⟨[], (.cat .str .str)⟩
def A : Dom := ⟨[], .bool⟩
def t (va : Ls) (b : Ls) : Tr (Bool) :=
 .call (qbs.f va) fun y1 =>
 .call (qbs.f b) fun y2 =>
 .ret (y1 == y2)
def f (va : Ls) (b : Ls) := (t va b).val
def G (x : D.den) := t x.2.1 x.2.2
def F (x : D.den) := (G x).val
def pa : D.den -> (Bool) -> A.den := fun (_, (_, _)) y1 => ((), y1)
def con : Con := tcon D A pa F
theorem ok : zgu Tryz.prog 95 con := zij Base.mixed Base.prog_ok qbu (by kernel_rfl) zht.nil 9 (fun _ => rfl) G (fun _ => rfl) fun _ _ _ => (by kernel_rfl)
end qbv
def qbw : Book := qbt.add 95 qbv.con
theorem qbx : zgv Tryz.prog qbw := qbu.add qbv.ok
namespace qag
def D : Dom := ⟨[], (.cat .str (.lit (.str false [58])))⟩
def A : Dom := ⟨[], (.int .i64)⟩
def t (s : Ls) : Tr (Int) :=
 .call (q1x.f s) fun y1 =>
 .ret y1
def f (s : Ls) := (t s).val
def G (x : D.den) := t x.2.1
def F (x : D.den) := (G x).val
def pa : D.den -> (Int) -> A.den := fun (_, (_, _)) y1 => ((), y1)
def con : Con := tcon D A pa F
theorem ok : zgu Tryz.prog 133 con := zij Base.mixed Base.prog_ok qbx (by kernel_rfl) zht.nil 9 (fun _ => rfl) G (fun _ => rfl) fun _ _ _ => (by kernel_rfl)
end qag
def qah : Book := qbw.addS 133 (fun a => ziq 1 [58] a) qag.con
theorem qai : zgv Tryz.prog qah := qbx.addS qag.ok
namespace q9a
def D : Dom := ⟨[], (.cat .str (.lit (.str false [58])))⟩
def A : Dom := ⟨[], .bool⟩
def t (s : Ls) : Tr (Bool) :=
 .call (qag.f s) fun y1 =>
 .ret (decide (y1 ≥ (0:Int)))
def f (s : Ls) := (t s).val
def G (x : D.den) := t x.2.1
def F (x : D.den) := (G x).val
def pa : D.den -> (Bool) -> A.den := fun (_, (_, _)) y1 => ((), y1)
def con : Con := tcon D A pa F
theorem ok : zgu Tryz.prog 119 con := zij Base.mixed Base.prog_ok qai (by kernel_rfl) zht.nil 9 (fun _ => rfl) G (fun _ => rfl) fun _ _ _ => (by kernel_rfl)
end q9a
def q9b : Book := qah.addS 119 (fun a => ziq 1 [58] a) q9a.con
theorem q9c : zgv Tryz.prog q9b := qai.addS q9a.ok
namespace qb4
def D : Dom := ⟨[], (.cat .str .str)⟩
def A : Dom := qbd.A
abbrev Rt := Int × Ls × Ls × Ls × Bool × Int
def t (method : Ls) (s : Ls) : Tr Rt :=
 .br (method == [(67:UInt8), 79, 78, 78, 69, 67, 84]) (.call (qb1.f s) fun y1 =>
  .br y1 (.call (q9a.f s) fun y2 =>
  .br y2 (.ret ((3:Int), s, [], [], false, (0:Int)))
  (.ret ((0:Int), [], [], [], false, (400:Int))))
  (.ret ((0:Int), [], [], [], false, (400:Int))))
 (.br (method == [(79:UInt8), 80, 84, 73, 79, 78, 83]) (.br (s == [(42:UInt8)]) (.ret ((4:Int), [], [], [], false, (0:Int)))
  (.call (q9y.f s) fun y3 =>
   .br y3 (.call (qbd.f (1:Int) [] s) fun (y4a, y4b, y4c, y4d, y4e, y4f) =>
   .ret (y4a, y4b, y4c, y4d, y4e, y4f))
   (.br (decide ((↑s.length:Int) ≥ (7:Int))) (.chk ((0:Int) <= (0:Int) ∧ (0:Int) <= (7:Int) ∧ (7:Int) <= (↑s.length:Int))<|.call (qbv.f (List.drop (↑(0:Nat):Int).toNat (List.take (Int.toNat (7:Int)) s)) [(104:UInt8), 116, 116, 112, 58, 47, 47]) fun y5 =>
    .br y5 (.chk ((0:Int) <= (7:Int) ∧ (7:Int) <= (↑s.length:Int) ∧ (↑s.length:Int) <= (↑s.length:Int))<|.chk ((↑((List.drop (Int.toNat (7:Int)) (List.take (↑s.length:Int).toNat s)).length + [(47:UInt8)].length):Int) <= (9223372036854775807:Int))<|.call (qa1.f (List.drop (Int.toNat (7:Int)) (List.take (↑s.length:Int).toNat s) ++ [(47:UInt8)]) [(47:UInt8), 63]) fun y6 =>
    .chk ((0:Int) <= (0:Int) ∧ (0:Int) <= y6 ∧ y6 <= (↑(List.drop (Int.toNat (7:Int)) (List.take (↑s.length:Int).toNat s)).length:Int))<|.call (qb1.f (List.drop (↑(0:Nat):Int).toNat (List.take y6.toNat (List.drop (Int.toNat (7:Int)) (List.take (↑s.length:Int).toNat s))))) fun y7 =>
    .br y7 (.chk ((0:Int) <= (0:Int) ∧ (0:Int) <= y6 ∧ y6 <= (↑(List.drop (Int.toNat (7:Int)) (List.take (↑s.length:Int).toNat s)).length:Int))<|.chk ((0:Int) <= y6 ∧ y6 <= (↑(List.drop (Int.toNat (7:Int)) (List.take (↑s.length:Int).toNat s)).length:Int) ∧ (↑(List.drop (Int.toNat (7:Int)) (List.take (↑s.length:Int).toNat s)).length:Int) <= (↑(List.drop (Int.toNat (7:Int)) (List.take (↑s.length:Int).toNat s)).length:Int))<|.call (qbd.f (2:Int) (List.drop (↑(0:Nat):Int).toNat (List.take y6.toNat (List.drop (Int.toNat (7:Int)) (List.take (↑s.length:Int).toNat s)))) (List.drop y6.toNat (List.take (↑(List.drop (Int.toNat (7:Int)) (List.take (↑s.length:Int).toNat s)).length:Int).toNat (List.drop (Int.toNat (7:Int)) (List.take (↑s.length:Int).toNat s))))) fun (y8a, y8b, y8c, y8d, y8e, y8f) =>
     .ret (y8a, y8b, y8c, y8d, y8e, y8f))
    (.ret ((0:Int), [], [], [], false, (400:Int))))
    (.ret ((0:Int), [], [], [], false, (400:Int))))
   (.ret ((0:Int), [], [], [], false, (400:Int))))))
  (.call (q9y.f s) fun y9 =>
  .br y9 (.call (qbd.f (1:Int) [] s) fun (y10a, y10b, y10c, y10d, y10e, y10f) =>
   .ret (y10a, y10b, y10c, y10d, y10e, y10f))
  (.br (decide ((↑s.length:Int) ≥ (7:Int))) (.chk ((0:Int) <= (0:Int) ∧ (0:Int) <= (7:Int) ∧ (7:Int) <= (↑s.length:Int))<|.call (qbv.f (List.drop (↑(0:Nat):Int).toNat (List.take (Int.toNat (7:Int)) s)) [(104:UInt8), 116, 116, 112, 58, 47, 47]) fun y11 =>
   .br y11 (.chk ((0:Int) <= (7:Int) ∧ (7:Int) <= (↑s.length:Int) ∧ (↑s.length:Int) <= (↑s.length:Int))<|.chk ((↑((List.drop (Int.toNat (7:Int)) (List.take (↑s.length:Int).toNat s)).length + [(47:UInt8)].length):Int) <= (9223372036854775807:Int))<|.call (qa1.f (List.drop (Int.toNat (7:Int)) (List.take (↑s.length:Int).toNat s) ++ [(47:UInt8)]) [(47:UInt8), 63]) fun y12 =>
    .chk ((0:Int) <= (0:Int) ∧ (0:Int) <= y12 ∧ y12 <= (↑(List.drop (Int.toNat (7:Int)) (List.take (↑s.length:Int).toNat s)).length:Int))<|.call (qb1.f (List.drop (↑(0:Nat):Int).toNat (List.take y12.toNat (List.drop (Int.toNat (7:Int)) (List.take (↑s.length:Int).toNat s))))) fun y13 =>
    .br y13 (.chk ((0:Int) <= (0:Int) ∧ (0:Int) <= y12 ∧ y12 <= (↑(List.drop (Int.toNat (7:Int)) (List.take (↑s.length:Int).toNat s)).length:Int))<|.chk ((0:Int) <= y12 ∧ y12 <= (↑(List.drop (Int.toNat (7:Int)) (List.take (↑s.length:Int).toNat s)).length:Int) ∧ (↑(List.drop (Int.toNat (7:Int)) (List.take (↑s.length:Int).toNat s)).length:Int) <= (↑(List.drop (Int.toNat (7:Int)) (List.take (↑s.length:Int).toNat s)).length:Int))<|.call (qbd.f (2:Int) (List.drop (↑(0:Nat):Int).toNat (List.take y12.toNat (List.drop (Int.toNat (7:Int)) (List.take (↑s.length:Int).toNat s)))) (List.drop y12.toNat (List.take (↑(List.drop (Int.toNat (7:Int)) (List.take (↑s.length:Int).toNat s)).length:Int).toNat (List.drop (Int.toNat (7:Int)) (List.take (↑s.length:Int).toNat s))))) fun (y14a, y14b, y14c, y14d, y14e, y14f) =>
    .ret (y14a, y14b, y14c, y14d, y14e, y14f))
    (.ret ((0:Int), [], [], [], false, (400:Int))))
   (.ret ((0:Int), [], [], [], false, (400:Int))))
   (.ret ((0:Int), [], [], [], false, (400:Int))))))
def f (method : Ls) (s : Ls) := (t method s).val
def G (x : D.den) := t x.2.1 x.2.2
def F (x : D.den) := (G x).val
def pa : D.den -> Rt -> A.den := fun (_, (_, _)) (y1, y2, y3, y4, y5, y6) => ((), ((y1, (y2, (y3, (y4, y5)))), y6))
def con : Con := tcon D A pa F
theorem ok : zgu Tryz.prog 93 con := zij Base.mixed Base.prog_ok q9c (by kernel_rfl) zht.nil 9 (fun _ => rfl) G (fun _ => rfl) fun _ _ _ => (by kernel_rfl)
end qb4
def qb5 : Book := q9b.add 93 qb4.con
theorem qb6 : zgv Tryz.prog qb5 := q9c.add qb4.ok
namespace q7d
def D : Dom := ⟨[], (.cat .str (.cat .str (.int .u32)))⟩
namespace L3
def D : Dom := ⟨[], (.cat .str (.cat .str (.cat .bool (.cat .bool (.cat (.int .i64) (.int .i64))))))⟩
def A : Dom := ⟨[], (.cat .str (.cat .str (.cat .bool .bool)))⟩
def B : Dom := ⟨[], .bool⟩
def t (s : Ls) (spaces:Bool) (controls:Bool) (t18:Int) (t19:Int) : Tr ((Int) ⊕ ((Unit) ⊕ (Bool))) :=
 .br (decide (t19 < t18)) (.chk ((0:Int) <= t19 ∧ t19 < (↑s.length:Int))<|.call (q3p.f (↑(s.getD t19.toNat (0:UInt8)).toNat:Int)) fun y1 =>
  .br (!y1) (.br spaces (.call (q37.f (↑(s.getD t19.toNat (0:UInt8)).toNat:Int)) fun y2 =>
   .br (!y2) (.br controls (.call (q3a.f (↑(s.getD t19.toNat (0:UInt8)).toNat:Int)) fun y3 =>
    .br (!y3) (.ret (.inr (.inr false)))
    (.ret (.inl (IntKind.i64.wrap (t19 + (1:Int))))))
   (.ret (.inr (.inr false))))
   (.ret (.inl (IntKind.i64.wrap (t19 + (1:Int))))))
  (.br controls (.call (q3a.f (↑(s.getD t19.toNat (0:UInt8)).toNat:Int)) fun y4 =>
   .br (!y4) (.ret (.inr (.inr false)))
   (.ret (.inl (IntKind.i64.wrap (t19 + (1:Int))))))
   (.ret (.inr (.inr false)))))
  (.ret (.inl (IntKind.i64.wrap (t19 + (1:Int))))))
 (.ret (.inr (.inl ())))
def f (s : Ls) (spaces:Bool) (controls:Bool) (t18:Int) (t19:Int) := Loop (fun z : Int => t s spaces controls t18 z) t19
def F (x : D.den) := f x.2.2.1 x.2.2.2.1 x.2.2.2.2.1 x.2.2.2.2.2.1 x.2.2.2.2.2.2
def pa : D.den -> (Unit) -> A.den := fun (_, (method, (s, (spaces, (controls, (_, _)))))) _ => ((), (method, (s, (spaces, controls))))
def pb : D.den -> (Bool) -> B.den := fun (_, (_, (_, (_, (_, (_, _)))))) y1 => ((), y1)
def lap : Lap := zim 3 63 [0, 1, 7, 8, 18, 19] D (.exit 0) [0, 1, 7, 8] A .ret [6] B pa pb F
def pk (x : D.den) (z:Int) : D.den := ((), (x.2.1, (x.2.2.1, (x.2.2.2.1, (x.2.2.2.2.1, (x.2.2.2.2.2.1, z))))))
def un (x : D.den) := x.2.2.2.2.2.2
def body (x : D.den) (z:Int) := t x.2.2.1 x.2.2.2.1 x.2.2.2.2.1 x.2.2.2.2.2.1 z
theorem ok : zhe Tryz.prog 0 (codeOf Tryz.prog 72) lap := zin Base.mixed Base.prog_ok qb6 (by kernel_rfl) (by kernel_rfl) zht.nil 9 pk un body (fun _ _ => rfl) (fun _ _ => rfl) (fun _ _ => rfl) (fun _ _ => rfl) (fun _ => rfl) fun _ _ _ _ => (by kernel_rfl)
end L3
def A : Dom := ⟨[], .bool⟩
def t (method : Ls) (s : Ls) (p:Int) : Tr (Bool) :=
 .call (q5p.f p (7:Int)) fun y1 =>
 .call (q5p.f p (8:Int)) fun y2 =>
 .both (q7d.L3.f s y1 y2 (↑s.length:Int) (0:Int)) (fun _ => .br (s == []) (.ret (!s == []))
  (.br y1 (.ret (!s == []))
  (.br y2 (.ret (!s == []))
   (.call (qb4.f method s) fun (_, _, _, _, _, y4f) =>
   .ret (y4f == (0:Int))))))
 (fun y5 => .ret y5)
def f (method : Ls) (s : Ls) (p:Int) := (t method s p).val
def G (x : D.den) := t x.2.1 x.2.2.1 x.2.2.2
def F (x : D.den) := (G x).val
def pa : D.den -> (Bool) -> A.den := fun (_, (_, (_, _))) y1 => ((), y1)
def con : Con := tcon D A pa F
theorem ok : zgu Tryz.prog 72 con := zij Base.mixed Base.prog_ok qb6 (by kernel_rfl) (.cons L3.ok (by kernel_rfl) (.nil)) 9 (fun _ => rfl) G (fun _ => rfl) fun _ _ _ => (by kernel_rfl)
end q7d
def q7e : Book := qb5.add 72 q7d.con
theorem q7f : zgv Tryz.prog q7e := qb6.add q7d.ok
namespace q7g
def D : Dom := ⟨[], (.cat .str (.cat (.int .u32) .bool))⟩
def A : Dom := ⟨[], (.tup (.cat (.int .i64) .bool))⟩
def t (s : Ls) (p:Int) (old:Bool) : Tr (Int × Bool) :=
 .br (s == []) (.ret ((0:Int), old))
 (.br ((↑s.length:Int) != (8:Int)) (.ret ((0:Int), false))
  (.chk ((0:Int) <= (7:Int) ∧ (7:Int) < (↑s.length:Int))<|.call (q3d.f (↑(s.getD (Int.toNat (7:Int)) (0:UInt8)).toNat:Int)) fun y1 =>
  .br (!y1) (.ret ((0:Int), false))
  (.chk ((0:Int) <= (0:Int) ∧ (0:Int) <= (7:Int) ∧ (7:Int) <= (↑s.length:Int))<|.br (!List.drop (↑(0:Nat):Int).toNat (List.take (Int.toNat (7:Int)) s) == [(72:UInt8), 84, 84, 80, 47, 49, 46]) (.call (q5p.f p (5:Int)) fun y2 =>
   .br y2 (.chk ((0:Int) <= (0:Int) ∧ (0:Int) <= (7:Int) ∧ (7:Int) <= (↑s.length:Int))<|.call (qbv.f (List.drop (↑(0:Nat):Int).toNat (List.take (Int.toNat (7:Int)) s)) [(72:UInt8), 84, 84, 80, 47, 49, 46]) fun y3 =>
    .br (!y3) (.ret ((0:Int), false))
    (.chk ((0:Int) <= (7:Int) ∧ (7:Int) < (↑s.length:Int))<|.br ((↑(s.getD (Int.toNat (7:Int)) (0:UInt8)).toNat:Int) == (48:Int)) (.ret ((0:Int), old))
    (.br ((↑(s.getD (Int.toNat (7:Int)) (0:UInt8)).toNat:Int) == (49:Int)) (.ret ((1:Int), true))
     (.call (q5p.f p (4:Int)) fun y4 =>
     .ret ((1:Int), y4)))))
   (.ret ((0:Int), false)))
   (.chk ((0:Int) <= (7:Int) ∧ (7:Int) < (↑s.length:Int))<|.br ((↑(s.getD (Int.toNat (7:Int)) (0:UInt8)).toNat:Int) == (48:Int)) (.ret ((0:Int), old))
   (.br ((↑(s.getD (Int.toNat (7:Int)) (0:UInt8)).toNat:Int) == (49:Int)) (.ret ((1:Int), true))
    (.call (q5p.f p (4:Int)) fun y5 =>
    .ret ((1:Int), y5)))))))
def f (s : Ls) (p:Int) (old:Bool) := (t s p old).val
def G (x : D.den) := t x.2.1 x.2.2.1 x.2.2.2
def F (x : D.den) := (G x).val
def pa : D.den -> (Int × Bool) -> A.den := fun (_, (_, (_, _))) (y1, y2) => ((), (y1, y2))
def con : Con := tcon D A pa F
theorem ok : zgu Tryz.prog 73 con := zij Base.mixed Base.prog_ok q7f (by kernel_rfl) zht.nil 9 (fun _ => rfl) G (fun _ => rfl) fun _ _ _ => (by kernel_rfl)
end q7g
def q7h : Book := q7e.add 73 q7g.con
theorem q7i : zgv Tryz.prog q7h := q7f.add q7g.ok
namespace q77
def D : Dom := ⟨[], (.cat .str (.cat (.int .u32) (.agg (.cat (.int .i64) (.cat (.int .i64) (.cat (.int .i64) (.cat (.int .i64) (.cat (.int .i64) (.cat (.int .i64) (.cat (.int .i64) (.cat (.int .i64) (.cat .bool .bool))))))))))))⟩
def A : Dom := ⟨[], (.tup (.cat .str (.cat .str (.cat (.int .i64) (.int .i64)))))⟩
abbrev Rt := Ls × Ls × Int × Int
def t (s : Ls) (p:Int) (Old:Bool) : Tr Rt :=
 .call (q7j.f s p) fun (y1a, y1b, y1c, y1d) =>
 .br (y1d != (0:Int)) (.ret ([], [], 0, (400:Int)))
 (.br (y1a == []) (.ret ([], [], 0, (400:Int)))
  (.br (decide ((↑y1a.length:Int) > (32:Int))) (.ret ([], [], 0, (400:Int)))
  (.call (q34.f [(1:Int)] y1a) fun y2 =>
   .br (!y2) (.ret ([], [], 0, (400:Int)))
   (.call (q7d.f y1a y1b p) fun y3 =>
   .br (!y3) (.ret ([], [], 0, (400:Int)))
   (.call (q7g.f y1c p Old) fun (y4a, y4b) =>
    .br (!y4b) (.ret ([], [], 0, (505:Int)))
    (.ret (y1a, y1b, y4a, (0:Int))))))))
def f (s : Ls) (p:Int) (Old:Bool) := (t s p Old).val
def G (x : D.den) := t x.2.1 x.2.2.1 x.2.2.2.2.2.2.2.2.2.2.2.2
def F (x : D.den) := (G x).val
def pa : D.den -> Rt -> A.den := fun (_, (_, (_, (_, (_, (_, (_, (_, (_, (_, (_, (_, _)))))))))))) (y1, y2, y3, y4) => ((), (y1, (y2, (y3, y4))))
def con : Con := tcon D A pa F
theorem ok : zgu Tryz.prog 63 con := zij Base.mixed Base.prog_ok q7i (by kernel_rfl) zht.nil 9 (fun _ => rfl) G (fun _ => rfl) fun _ _ _ => (by kernel_rfl)
end q77
def q78 : Book := q7h.add 63 q77.con
theorem q79 : zgv Tryz.prog q78 := q7i.add q77.ok
namespace q57
def D : Dom := ⟨[.cells (.cat (.ptr 1 0 0 0) (.cat .str (.cat .str (.cat (.int .i64) (.cat (.sl 3 2) (.cat .bool (.cat (.sl 4 1) (.cat (.sl 5 2) (.cat (.int .i64) (.cat (.int .i64) (.cat (.int .i64) (.cat (.int .i64) (.cat .bool (.cat .bool (.cat (.int .u32) (.cat (.int .i64) (.cat (.int .i64) (.cat (.int .i64) (.cat (.int .i64) (.cat (.int .i64) (.cat (.int .i64) (.cat (.int .i64) (.cat (.int .i64) (.cat .bool (.cat .bool (.cat (.int .i64) (.sl 6 7))))))))))))))))))))))))))) 54 false, .cells (.cat (.int .u32) (.cat (.int .i64) (.cat (.sl 2 1) (.cat .bool (.cat .bool .bool))))) 77 false, .vec .byte 5 false, .vec (.pair .str .str) 87 false, .vec .byte 5 false, .vec (.pair .str .str) 87 false, .vec (.pair .str (.pair .str (.pair (.int .i64) (.pair (.sl (.pair .str .str)) (.pair .bool (.pair (.sl .byte) (.sl (.pair .str .str)))))))) 50 false], (.cat (.ptr 0 0 0 0) .str)⟩
def A : Dom := q4s.A
abbrev Rt := Ls × Ls × Int × Int × Bool × Int
def t (Method : Ls) (Target : Ls) (Minor:Int) (stage:Int) (begun:Bool) (p:Int) (Old:Bool) (err:Int) (b : Ls) (Fields_2 : Lf) (Body_2 : Ls) (Trailers_2 : Lf) (out : List (Ls × Ls × Int × Lf × Bool × Ls × Lf)) (s : Ls) : Tr Rt :=
 .br (s == []) (.call (q5p.f p (0:Int)) fun y1 =>
  .br y1 (.okl Fields_2.length<|.okl Body_2.length<|.okl Trailers_2.length<|.okl out.length<|.okl b.length<|.ret (Method, Target, Minor, stage, false, err))
  (.call (q77.f s p Old) fun (y2a, y2b, y2c, y2d) =>
  .br (y2d == (0:Int)) (.okl Fields_2.length<|.okl Body_2.length<|.okl Trailers_2.length<|.okl out.length<|.okl b.length<|.ret (y2a, y2b, y2c, 1, begun, y2d))
  (.okl Fields_2.length<|.okl Body_2.length<|.okl Trailers_2.length<|.okl out.length<|.okl b.length<|.ret (y2a, y2b, y2c, stage, begun, y2d))))
 (.call (q77.f s p Old) fun (y3a, y3b, y3c, y3d) =>
  .br (y3d == (0:Int)) (.okl Fields_2.length<|.okl Body_2.length<|.okl Trailers_2.length<|.okl out.length<|.okl b.length<|.ret (y3a, y3b, y3c, 1, begun, y3d))
  (.okl Fields_2.length<|.okl Body_2.length<|.okl Trailers_2.length<|.okl out.length<|.okl b.length<|.ret (y3a, y3b, y3c, stage, begun, y3d)))
def f (Method : Ls) (Target : Ls) (Minor:Int) (stage:Int) (begun:Bool) (p:Int) (Old:Bool) (err:Int) (b : Ls) (Fields_2 : Lf) (Body_2 : Ls) (Trailers_2 : Lf) (out : List (Ls × Ls × Int × Lf × Bool × Ls × Lf)) (s : Ls) := (t Method Target Minor stage begun p Old err b Fields_2 Body_2 Trailers_2 out s).val
def G (x : D.den) := t x.1.1.2.1 x.1.1.2.2.1 x.1.1.2.2.2.1 x.1.1.2.2.2.2.2.2.2.2.1 x.1.1.2.2.2.2.2.2.2.2.2.2.2.2.1 x.1.1.2.2.2.2.2.2.2.2.2.2.2.2.2.2.1 x.1.1.2.2.2.2.2.2.2.2.2.2.2.2.2.2.2.2.2.2.2.2.2.2.2.2.1 x.1.1.2.2.2.2.2.2.2.2.2.2.2.2.2.2.2.2.2.2.2.2.2.2.2.2.2.1 x.1.2.2.1 x.1.2.2.2.1 x.1.2.2.2.2.1 x.1.2.2.2.2.2.1 x.1.2.2.2.2.2.2.1 x.2.2
def F (x : D.den) := (G x).val
def pa : D.den -> Rt -> A.den := fun (((_, (_, (_, (_, (_, (Chunked, (_, (_, (_, (lines, (head, (need, (_, (waits, (p, (Line, (Fields, (Head, (Body, (Ext, (Trailers, (Wait, (Idle, (Chunked_2, (Old, (_, _)))))))))))))))))))))))))), ((p_2, (most, (_, (pending, (over, bad))))), (b, (Fields_2, (Body_2, (Trailers_2, (out, _))))))), (_, _)) (y1, y2, y3, y4, y5, y6) => ((((), (y1, (y2, (y3, ((), (Chunked, ((), ((), (y4, (lines, (head, (need, (y5, (waits, (p, (Line, (Fields, (Head, (Body, (Ext, (Trailers, (Wait, (Idle, (Chunked_2, (Old, (y6, ())))))))))))))))))))))))))), ((p_2, (most, ((), (pending, (over, bad))))), (b, (Fields_2, (Body_2, (Trailers_2, (out, ()))))))), ())
def con : Con := tcon D A pa F
theorem ok : zgu Tryz.prog 56 con := zij Base.mixed Base.prog_ok q79 (by kernel_rfl) zht.nil 9 (fun _ => rfl) G (fun _ => rfl) fun _ _ _ => (by kernel_rfl)
end q57
def q58 : Book := q78.add 56 q57.con
theorem q59 : zgv Tryz.prog q58 := q79.add q57.ok
namespace qbm
def D : Dom := ⟨[.vec (.pair .str .str) 87 true], (.cat (.sl 0 2) .str)⟩
namespace L3
def D : Dom := ⟨[.vec (.pair .str .str) 87 true, .vec .str 9 false], (.cat .str (.cat (.sl 1 1) (.cat (.sl 0 2) (.cat (.int .i64) (.int .i64)))))⟩
def A : Dom := ⟨[.vec (.pair .str .str) 87 true, .vec .str 9 false], (.sl 1 1)⟩
abbrev Zt := List (Ls) × Int
abbrev Rt := List (Ls)
def t (l : Lf) (out : List (Ls)) (name : Ls) (t9:Int) (t10:Int) : Tr (Zt ⊕ Rt) :=
 .br (decide (t10 < t9)) (.chk ((0:Int) <= t10 ∧ t10 < (↑l.length:Int))<|.chk ((0:Nat) + t10.toNat < l.length)<|.call (qbv.f ((l.getD ((0:Nat) + t10.toNat) ([], [])).fst) name) fun y1 =>
  .br y1 (.chk ((0:Nat) + out.length <= out.length)<|.chk ((out.length + (1:Nat)) * (16:Nat) <= (140737488355328:Nat))<|.okl l.length<|.chk ((0:Nat) = (0:Nat) ∧ out.length + (1:Nat) = (List.take out.length (List.drop (0:Nat) out) ++ [(l.getD ((0:Nat) + t10.toNat) ([], [])).snd]).length)<|.ret (.inl (List.take out.length (List.drop (0:Nat) out) ++ [(l.getD ((0:Nat) + t10.toNat) ([], [])).snd], IntKind.i64.wrap (t10 + (1:Int)))))
  (.okl l.length<|.okl out.length<|.ret (.inl (out, IntKind.i64.wrap (t10 + (1:Int))))))
 (.okl out.length<|.ret (.inr out))
def f (l : Lf) (out : List (Ls)) (name : Ls) (t9:Int) (t10:Int) := Loop (fun z : Zt => t l z.1 name t9 z.2) (out, t10)
def F (x : D.den) := f x.1.1 x.1.2.1 x.2.1 x.2.2.2.2.1 x.2.2.2.2.2
def pa : D.den -> Rt -> A.den := fun ((l, (_, _)), (_, (_, (_, (_, _))))) y1 => ((l, (y1, ())), ())
def lap : Lap := tlap 3 25 [1, 5, 8, 9, 10] D (.exit 0) [5] A pa F
def pk (x : D.den) (z : Zt) : D.den := ((x.1.1, (z.1, ())), (x.2.1, ((), ((), (x.2.2.2.2.1, z.2)))))
def un (x : D.den) := (x.1.2.1, x.2.2.2.2.2)
def body (x : D.den) (z : Zt) := t x.1.1 z.1 x.2.1 x.2.2.2.2.1 z.2
theorem ok : zhe Tryz.prog 1 (codeOf Tryz.prog 75) lap := zil Base.mixed Base.prog_ok q59 (by kernel_rfl) (by kernel_rfl) zht.nil 9 pk un body (fun _ _ => rfl) (fun _ _ => rfl) (fun _ _ => rfl) (fun _ => rfl) fun _ _ _ _ => (by kernel_rfl)
end L3
def A : Dom := qbm.L3.A
abbrev Rt := List (Ls)
def t (l : Lf) (name : Ls) : Tr Rt :=
 .okl l.length<|.call (qbm.L3.f l [] name (↑l.length:Int) (0:Int)) fun y1 =>
 .okl y1.length<|.ret y1
def f (l : Lf) (name : Ls) := (t l name).val
def G (x : D.den) := t x.1.1 x.2.2
def F (x : D.den) := (G x).val
def pa : D.den -> Rt -> A.den := fun ((l, _), (_, _)) y1 => ((l, (y1, ())), ())
def con : Con := tcon D A pa F
theorem ok : zgu Tryz.prog 75 con := zij Base.mixed Base.prog_ok q59 (by kernel_rfl) (.cons L3.ok (by kernel_rfl) (.nil)) 9 (fun _ => rfl) G (fun _ => rfl) fun _ _ _ => (by kernel_rfl)
end qbm
def qbn : Book := q58.add 75 qbm.con
theorem qbo : zgv Tryz.prog qbn := q59.add qbm.ok
namespace q10
def D : Dom := ⟨[], .str⟩
def A : Dom := ⟨[], .bool⟩
def t (s : Ls) : Tr (Bool) :=
 .call (qb1.f s) fun y1 =>
 .ret (!y1)
def f (s : Ls) := (t s).val
def G (x : D.den) := t x.2
def F (x : D.den) := (G x).val
def pa : D.den -> (Bool) -> A.den := fun (_, _) y1 => ((), y1)
def con : Con := tcon D A pa F
theorem ok : zgu Tryz.prog 97 con := zij Base.mixed Base.prog_ok qbo (by kernel_rfl) zht.nil 9 (fun _ => rfl) G (fun _ => rfl) fun _ _ _ => (by kernel_rfl)
end q10
def q11 : Book := qbn.add 97 q10.con
theorem q12 : zgv Tryz.prog q11 := qbo.add q10.ok
namespace q8s
def D : Dom := ⟨[.vec .str 9 true], (.cat (.sl 0 1) (.lit (.func (.func 97) [] [])))⟩
namespace L2
def D : Dom := ⟨[.vec .str 9 true], (.cat (.sl 0 1) (.cat (.lit (.func (.func 97) [] [])) (.cat (.int .i64) (.int .i64))))⟩
def A : Dom := ⟨[.vec .str 9 true], .nil⟩
def B : Dom := ⟨[.vec .str 9 true], (.int .i64)⟩
def t (s : List (Ls)) (t7:Int) (t8:Int) : Tr ((Int) ⊕ ((Unit) ⊕ (Int))) :=
 .br (decide (t8 < t7)) (.chk ((0:Int) <= t8 ∧ t8 < (↑s.length:Int))<|.chk ((0:Nat) + t8.toNat < s.length)<|.call (q10.f (s.getD ((0:Nat) + t8.toNat) [])) fun y1 =>
  .br y1 (.ret (.inr (.inr t8)))
  (.okl s.length<|.ret (.inl (IntKind.i64.wrap (t8 + (1:Int))))))
 (.ret (.inr (.inl ())))
def f (s : List (Ls)) (t7:Int) (t8:Int) := Loop (fun z : Int => t s t7 z) t8
def F (x : D.den) := f x.1.1 x.2.2.2.1 x.2.2.2.2
def pa : D.den -> (Unit) -> A.den := fun ((s, _), (_, (_, (_, _)))) _ => ((s, ()), ())
def pb : D.den -> (Int) -> B.den := fun ((s, _), (_, (_, (_, _)))) y1 => ((s, ()), y1)
def lap : Lap := zim 2 19 [0, 1, 7, 8] D (.exit 0) [] A .ret [4] B pa pb F
def pk (x : D.den) (z:Int) : D.den := ((x.1.1, ()), ((), ((), (x.2.2.2.1, z))))
def un (x : D.den) := x.2.2.2.2
def body (x : D.den) (z:Int) := t x.1.1 x.2.2.2.1 z
theorem ok : zhe Tryz.prog 1 (codeOf Tryz.prog 122) lap := zin Base.mixed Base.prog_ok q12 (by kernel_rfl) (by kernel_rfl) zht.nil 9 pk un body (fun _ _ => rfl) (fun _ _ => rfl) (fun _ _ => rfl) (fun _ _ => rfl) (fun _ => rfl) fun _ _ _ _ => (by kernel_rfl)
end L2
def A : Dom := ⟨[.vec .str 9 true], (.int .i64)⟩
def t (s : List (Ls)) : Tr (Int) :=
 .okl s.length<|.both (q8s.L2.f s (↑s.length:Int) (0:Int)) (fun _ => .ret (-1:Int))
 (fun y2 => .ret y2)
def f (s : List (Ls)) := (t s).val
def G (x : D.den) := t x.1.1
def F (x : D.den) := (G x).val
def pa : D.den -> (Int) -> A.den := fun ((s, _), (_, _)) y1 => ((s, ()), y1)
def con : Con := tcon D A pa F
theorem ok : zgu Tryz.prog 122 con := zij Base.mixed Base.prog_ok q12 (by kernel_rfl) (.cons L2.ok (by kernel_rfl) (.nil)) 9 (fun _ => rfl) G (fun _ => rfl) fun _ _ _ => (by kernel_rfl)
end q8s
def q8t : Book := q11.addS 122 (fun a => zik 1 97 a) q8s.con
theorem q8u : zgv Tryz.prog q8t := q12.addS q8s.ok
namespace q8a
def D : Dom := q8s.D
def A : Dom := ⟨[.vec .str 9 true], .bool⟩
def t (s : List (Ls)) : Tr (Bool) :=
 .chk ((0:Nat) + s.length <= s.length)<|.call (q8s.f (List.take s.length (List.drop (0:Nat) s))) fun y1 =>
 .ret (decide (y1 ≥ (0:Int)))
def f (s : List (Ls)) := (t s).val
def G (x : D.den) := t x.1.1
def F (x : D.den) := (G x).val
def pa : D.den -> (Bool) -> A.den := fun ((s, _), (_, _)) y1 => ((s, ()), y1)
def con : Con := tcon D A pa F
theorem ok : zgu Tryz.prog 96 con := zij Base.mixed Base.prog_ok q8u (by kernel_rfl) zht.nil 9 (fun _ => rfl) G (fun _ => rfl) fun _ _ _ => (by kernel_rfl)
end q8a
def q8b : Book := q8t.addS 96 (fun a => zik 1 97 a) q8a.con
theorem q8c : zgv Tryz.prog q8b := q8u.addS q8a.ok
namespace q0x
def D : Dom := ⟨[.vec (.pair .str .str) 87 true], (.cat (.int .u32) (.cat (.int .i64) (.sl 0 2)))⟩
def A : Dom := ⟨[.vec (.pair .str .str) 87 true], (.int .i64)⟩
def t (l : Lf) (p:Int) (minor:Int) : Tr (Int) :=
 .chk ((0:Nat) + l.length <= l.length)<|.call (qbm.f (List.take l.length (List.drop (0:Nat) l)) [(72:UInt8), 111, 115, 116]) fun y1 =>
 .br ((↑y1.length:Int) == (0:Int)) (.br (minor != (1:Int)) (.chk ((0:Nat) + y1.length <= y1.length)<|.call (q8a.f (List.take y1.length (List.drop (0:Nat) y1))) fun y2 =>
  .br y2 (.ret (400:Int))
  (.ret (0:Int)))
  (.call (q5p.f p (15:Int)) fun y3 =>
  .br (!y3) (.ret (400:Int))
  (.chk ((0:Nat) + y1.length <= y1.length)<|.call (q8a.f (List.take y1.length (List.drop (0:Nat) y1))) fun y4 =>
   .br y4 (.ret (400:Int))
   (.ret (0:Int)))))
 (.br (decide ((↑y1.length:Int) > (1:Int))) (.call (q5p.f p (16:Int)) fun y5 =>
  .br (!y5) (.ret (400:Int))
  (.chk ((0:Nat) + y1.length <= y1.length)<|.call (q8a.f (List.take y1.length (List.drop (0:Nat) y1))) fun y6 =>
   .br y6 (.ret (400:Int))
   (.ret (0:Int))))
  (.br (!(↑y1.length:Int) == (1:Int)) (.ret (400:Int))
  (.chk ((0:Nat) + y1.length <= y1.length)<|.call (q8a.f (List.take y1.length (List.drop (0:Nat) y1))) fun y7 =>
   .br y7 (.ret (400:Int))
   (.ret (0:Int)))))
def f (l : Lf) (p:Int) (minor:Int) := (t l p minor).val
def G (x : D.den) := t x.1.1 x.2.1 x.2.2.1
def F (x : D.den) := (G x).val
def pa : D.den -> (Int) -> A.den := fun ((l, _), (_, (_, _))) y1 => ((l, ()), y1)
def con : Con := tcon D A pa F
theorem ok : zgu Tryz.prog 74 con := zij Base.mixed Base.prog_ok q8c (by kernel_rfl) zht.nil 9 (fun _ => rfl) G (fun _ => rfl) fun _ _ _ => (by kernel_rfl)
end q0x
def q0y : Book := q8b.add 74 q0x.con
theorem q0z : zgv Tryz.prog q0y := q8c.add q0x.ok
end Go.Vx
end
section
set_option maxRecDepth 1000000
set_option maxHeartbeats 4000000
set_option synthInstance.maxSize 100000
set_option synthInstance.maxHeartbeats 400000
namespace Go.Vx
open Go Go.Vx Go.Proofs
namespace q1u
def D : Dom := ⟨[], (.cat .str (.lit (.str false [44])))⟩
def A : Dom := ⟨[], (.int .i64)⟩
def t (s : Ls) : Tr (Int) :=
 .br ([(44:UInt8)] == s) (.ret (0:Int))
 (.call (q97.f s (44:Int)) fun y1 =>
  .ret y1)
def f (s : Ls) := (t s).val
def G (x : D.den) := t x.2.1
def F (x : D.den) := (G x).val
def pa : D.den -> (Int) -> A.den := fun (_, (_, _)) y1 => ((), y1)
def con : Con := tcon D A pa F
theorem ok : zgu Tryz.prog 127 con := zij Base.mixed Base.prog_ok q0z (by kernel_rfl) zht.nil 9 (fun _ => rfl) G (fun _ => rfl) fun _ _ _ => (by kernel_rfl)
end q1u
def q1v : Book := q0y.addS 127 (fun a => ziq 1 [44] a) q1u.con
theorem q1w : zgv Tryz.prog q1v := q0z.addS q1u.ok
namespace qad
def D : Dom := ⟨[], (.cat .str (.lit (.str false [44])))⟩
def A : Dom := ⟨[], (.int .i64)⟩
def t (s : Ls) : Tr (Int) :=
 .call (q1u.f s) fun y1 =>
 .ret y1
def f (s : Ls) := (t s).val
def G (x : D.den) := t x.2.1
def F (x : D.den) := (G x).val
def pa : D.den -> (Int) -> A.den := fun (_, (_, _)) y1 => ((), y1)
def con : Con := tcon D A pa F
theorem ok : zgu Tryz.prog 133 con := zij Base.mixed Base.prog_ok q1w (by kernel_rfl) zht.nil 9 (fun _ => rfl) G (fun _ => rfl) fun _ _ _ => (by kernel_rfl)
end qad
def qae : Book := q1v.addS 133 (fun a => ziq 1 [44] a) qad.con
theorem qaf : zgv Tryz.prog qae := q1w.addS qad.ok
namespace qay
def D : Dom := ⟨[], (.cat .str (.cat (.lit (.str false [44])) (.cat (.int .i64) (.int .i64))))⟩
namespace L11
def D : Dom := ⟨[.vec .str 9 false], (.cat .str (.cat (.lit (.str false [44])) (.cat (.int .i64) (.cat (.int .i64) (.cat (.sl 0 1) (.int .i64))))))⟩
def A : Dom := ⟨[.vec .str 9 false], (.cat .str (.cat (.sl 0 1) (.int .i64)))⟩
abbrev Zt := List (Ls) × Ls × Int
abbrev Rt := List (Ls) × Ls × Int
def t (va : List (Ls)) (s : Ls) (sepSave:Int) (n:Int) (i:Int) : Tr (Zt ⊕ Rt) :=
 .br (decide (i < n)) (.call (qad.f s) fun y1 =>
  .br (decide (y1 < (0:Int))) (.okl va.length<|.ret (.inr (va, s, i)))
  (.chk ((0:Int) <= (0:Int) ∧ (0:Int) <= IntKind.i64.wrap (y1 + sepSave) ∧ IntKind.i64.wrap (y1 + sepSave) <= (↑s.length:Int))<|.chk ((0:Int) <= i ∧ i < (↑va.length:Int))<|.chk ((0:Nat) + i.toNat < va.length)<|.chk ((0:Int) <= IntKind.i64.wrap (y1 + (1:Int)) ∧ IntKind.i64.wrap (y1 + (1:Int)) <= (↑s.length:Int) ∧ (↑s.length:Int) <= (↑s.length:Int))<|.chk ((0:Nat) = (0:Nat) ∧ va.length = (va.set ((0:Nat) + i.toNat) (List.drop (↑(0:Nat):Int).toNat (List.take (IntKind.i64.wrap (y1 + sepSave)).toNat s))).length)<|.ret (.inl (va.set ((0:Nat) + i.toNat) (List.drop (↑(0:Nat):Int).toNat (List.take (IntKind.i64.wrap (y1 + sepSave)).toNat s)), List.drop (IntKind.i64.wrap (y1 + (1:Int))).toNat (List.take (↑s.length:Int).toNat s), IntKind.i64.wrap (i + (1:Int))))))
 (.okl va.length<|.ret (.inr (va, s, i)))
def f (va : List (Ls)) (s : Ls) (sepSave:Int) (n:Int) (i:Int) := Loop (fun z : Zt => t z.1 z.2.1 sepSave n z.2.2) (va, s, i)
def F (x : D.den) := f x.1.1 x.2.1 x.2.2.2.1 x.2.2.2.2.1 x.2.2.2.2.2.2
def pa : D.den -> Rt -> A.den := fun ((_, _), (_, (_, (_, (_, (_, _)))))) (y1, y2, y3) => ((y1, ()), (y2, ((), y3)))
def lap : Lap := tlap 11 66 [0, 1, 2, 3, 9, 10] D (.exit 0) [0, 9, 10] A pa F
def pk (x : D.den) (z : Zt) : D.den := ((z.1, ()), (z.2.1, ((), (x.2.2.2.1, (x.2.2.2.2.1, ((), z.2.2))))))
def un (x : D.den) := (x.1.1, x.2.1, x.2.2.2.2.2.2)
def body (x : D.den) (z : Zt) := t z.1 z.2.1 x.2.2.2.1 x.2.2.2.2.1 z.2.2
theorem ok : zhe Tryz.prog 0 (codeOf Tryz.prog 115) lap := zil Base.mixed Base.prog_ok qaf (by kernel_rfl) (by kernel_rfl) zht.nil 9 pk un body (fun _ _ => rfl) (fun _ _ => rfl) (fun _ _ => rfl) (fun _ => rfl) fun _ _ _ _ => (by kernel_rfl)
end L11
def A : Dom := ⟨[.vec .str 9 false], (.sl 0 1)⟩
abbrev Rt := List (Ls)
def t (s : Ls) (sepSave:Int) (n:Int) : Tr Rt :=
 .br (n == (0:Int)) (.ret [])
 (.br (decide (n < (0:Int))) (.call (q9d.f s [(44:UInt8)]) fun y1 =>
  .chk ((0:Int) <= mn2 (IntKind.i64.wrap (y1 + (1:Int))) (IntKind.i64.wrap ((↑s.length:Int) + (1:Int))) ∧ mn2 (IntKind.i64.wrap (y1 + (1:Int))) (IntKind.i64.wrap ((↑s.length:Int) + (1:Int))) <= mn2 (IntKind.i64.wrap (y1 + (1:Int))) (IntKind.i64.wrap ((↑s.length:Int) + (1:Int))) ∧ mn2 (IntKind.i64.wrap (y1 + (1:Int))) (IntKind.i64.wrap ((↑s.length:Int) + (1:Int))) * (↑(16:Nat):Int) <= (140737488355328:Int) ∧ mn2 (IntKind.i64.wrap (y1 + (1:Int))) (IntKind.i64.wrap ((↑s.length:Int) + (1:Int))) <= (140737488355328:Int))<|.chk ((0:Nat) = (0:Nat) ∧ (mn2 (IntKind.i64.wrap (y1 + (1:Int))) (IntKind.i64.wrap ((↑s.length:Int) + (1:Int)))).toNat = (List.replicate (mn2 (IntKind.i64.wrap (y1 + (1:Int))) (IntKind.i64.wrap ((↑s.length:Int) + (1:Int)))).toNat ([] : Ls)).length)<|.call (qay.L11.f (List.replicate (mn2 (IntKind.i64.wrap (y1 + (1:Int))) (IntKind.i64.wrap ((↑s.length:Int) + (1:Int)))).toNat ([] : Ls)) s sepSave (IntKind.i64.wrap (mn2 (IntKind.i64.wrap (y1 + (1:Int))) (IntKind.i64.wrap ((↑s.length:Int) + (1:Int))) - (1:Int))) (0:Int)) fun (y2a, y2b, y2c) =>
  .chk ((0:Int) <= y2c ∧ y2c < (↑y2a.length:Int))<|.chk ((0:Nat) + y2c.toNat < y2a.length)<|.chk ((0:Int) <= (0:Int) ∧ (0:Int) <= IntKind.i64.wrap (y2c + (1:Int)) ∧ IntKind.i64.wrap (y2c + (1:Int)) <= (↑y2a.length:Int))<|.chk ((0:Nat) = (0:Nat) ∧ (IntKind.i64.wrap (y2c + (1:Int)) - (↑(0:Nat):Int)).toNat = (y2a.set ((0:Nat) + y2c.toNat) y2b).length)<|.ret (y2a.set ((0:Nat) + y2c.toNat) y2b))
  (.chk ((0:Int) <= mn2 n (IntKind.i64.wrap ((↑s.length:Int) + (1:Int))) ∧ mn2 n (IntKind.i64.wrap ((↑s.length:Int) + (1:Int))) <= mn2 n (IntKind.i64.wrap ((↑s.length:Int) + (1:Int))) ∧ mn2 n (IntKind.i64.wrap ((↑s.length:Int) + (1:Int))) * (↑(16:Nat):Int) <= (140737488355328:Int) ∧ mn2 n (IntKind.i64.wrap ((↑s.length:Int) + (1:Int))) <= (140737488355328:Int))<|.chk ((0:Nat) = (0:Nat) ∧ (mn2 n (IntKind.i64.wrap ((↑s.length:Int) + (1:Int)))).toNat = (List.replicate (mn2 n (IntKind.i64.wrap ((↑s.length:Int) + (1:Int)))).toNat ([] : Ls)).length)<|.call (qay.L11.f (List.replicate (mn2 n (IntKind.i64.wrap ((↑s.length:Int) + (1:Int)))).toNat ([] : Ls)) s sepSave (IntKind.i64.wrap (mn2 n (IntKind.i64.wrap ((↑s.length:Int) + (1:Int))) - (1:Int))) (0:Int)) fun (y3a, y3b, y3c) =>
  .chk ((0:Int) <= y3c ∧ y3c < (↑y3a.length:Int))<|.chk ((0:Nat) + y3c.toNat < y3a.length)<|.chk ((0:Int) <= (0:Int) ∧ (0:Int) <= IntKind.i64.wrap (y3c + (1:Int)) ∧ IntKind.i64.wrap (y3c + (1:Int)) <= (↑y3a.length:Int))<|.chk ((0:Nat) = (0:Nat) ∧ (IntKind.i64.wrap (y3c + (1:Int)) - (↑(0:Nat):Int)).toNat = (y3a.set ((0:Nat) + y3c.toNat) y3b).length)<|.ret (y3a.set ((0:Nat) + y3c.toNat) y3b)))
def f (s : Ls) (sepSave:Int) (n:Int) := (t s sepSave n).val
def G (x : D.den) := t x.2.1 x.2.2.2.1 x.2.2.2.2
def F (x : D.den) := (G x).val
def pa : D.den -> Rt -> A.den := fun (_, (_, (_, (_, _)))) y1 => ((y1, ()), ())
def con : Con := tcon D A pa F
theorem ok : zgu Tryz.prog 115 con := zij Base.mixed Base.prog_ok qaf (by kernel_rfl) (.cons L11.ok (by kernel_rfl) (.nil)) 9 (fun _ => rfl) G (fun _ => rfl) fun _ _ _ => (by kernel_rfl)
end qay
def qaz : Book := qae.addS 115 (fun a => ziq 1 [44] a) qay.con
theorem qb0 : zgv Tryz.prog qaz := qaf.addS qay.ok
namespace qam
def D : Dom := ⟨[], (.cat .str (.lit (.str false [44])))⟩
def A : Dom := ⟨[.vec .str 9 false], (.sl 0 1)⟩
abbrev Rt := List (Ls)
def t (s : Ls) : Tr Rt :=
 .call (qay.f s (0:Int) (-1:Int)) fun y1 =>
 .okl y1.length<|.ret y1
def f (s : Ls) := (t s).val
def G (x : D.den) := t x.2.1
def F (x : D.den) := (G x).val
def pa : D.den -> Rt -> A.den := fun (_, (_, _)) y1 => ((y1, ()), ())
def con : Con := tcon D A pa F
theorem ok : zgu Tryz.prog 86 con := zij Base.mixed Base.prog_ok qb0 (by kernel_rfl) zht.nil 9 (fun _ => rfl) G (fun _ => rfl) fun _ _ _ => (by kernel_rfl)
end qam
def qan : Book := qaz.addS 86 (fun a => ziq 1 [44] a) qam.con
theorem qao : zgv Tryz.prog qan := qb0.addS qam.ok
namespace qbp
def D : Dom := ⟨[.vec .str 9 true], (.sl 0 1)⟩
namespace L6
def D : Dom := ⟨[.vec .str 9 true, .vec .str 9 false, .vec .str 9 false], (.cat (.sl 1 1) (.cat (.sl 0 1) (.cat (.int .i64) (.cat (.int .i64) (.cat (.sl 2 1) (.cat (.int .i64) (.int .i64)))))))⟩
def A : Dom := ⟨[.vec .str 9 true, .vec .str 9 false], (.cat (.sl 1 1) (.cat (.sl 0 1) (.cat (.int .i64) (.int .i64))))⟩
abbrev Zt := List (Ls) × Int
abbrev Rt := List (Ls)
def t (values : List (Ls)) (out : List (Ls)) (t15 : List (Ls)) (t16:Int) (t17:Int) : Tr (Zt ⊕ Rt) :=
 .br (decide (t17 < t16)) (.chk ((0:Int) <= t17 ∧ t17 < (↑t15.length:Int))<|.chk ((0:Nat) + t17.toNat < t15.length)<|.call (qby.f (t15.getD ((0:Nat) + t17.toNat) [])) fun y1 =>
  .chk ((0:Nat) + out.length <= out.length)<|.chk ((out.length + (1:Nat)) * (16:Nat) <= (140737488355328:Nat))<|.okl values.length<|.chk ((0:Nat) = (0:Nat) ∧ out.length + (1:Nat) = (List.take out.length (List.drop (0:Nat) out) ++ [y1]).length)<|.okl t15.length<|.ret (.inl (List.take out.length (List.drop (0:Nat) out) ++ [y1], IntKind.i64.wrap (t17 + (1:Int)))))
 (.okl values.length<|.okl out.length<|.ret (.inr out))
def f (values : List (Ls)) (out : List (Ls)) (t15 : List (Ls)) (t16:Int) (t17:Int) := Loop (fun z : Zt => t values z.1 t15 t16 z.2) (out, t17)
def F (x : D.den) := f x.1.1 x.1.2.1 x.1.2.2.1 x.2.2.2.2.2.2.1 x.2.2.2.2.2.2.2
def pa : D.den -> Rt -> A.den := fun ((values, (_, (_, _))), (_, (_, (t9, (t10, (_, (_, _))))))) y1 => ((values, (y1, ())), ((), ((), (t9, t10))))
def lap : Lap := tlap 6 29 [3, 8, 9, 10, 15, 16, 17] D (.exit 2) [3, 8, 9, 10] A pa F
def pk (x : D.den) (z : Zt) : D.den := ((x.1.1, (z.1, (x.1.2.2.1, ()))), ((), ((), (x.2.2.2.1, (x.2.2.2.2.1, ((), (x.2.2.2.2.2.2.1, z.2)))))))
def un (x : D.den) := (x.1.2.1, x.2.2.2.2.2.2.2)
def body (x : D.den) (z : Zt) := t x.1.1 z.1 x.1.2.2.1 x.2.2.2.2.2.2.1 z.2
theorem ok : zhe Tryz.prog 1 (codeOf Tryz.prog 99) lap := zil Base.mixed Base.prog_ok qao (by kernel_rfl) (by kernel_rfl) zht.nil 9 pk un body (fun _ _ => rfl) (fun _ _ => rfl) (fun _ _ => rfl) (fun _ => rfl) fun _ _ _ _ => (by kernel_rfl)
end L6
namespace L3
def D : Dom := qbp.L6.A
def A : Dom := ⟨[.vec .str 9 true, .vec .str 9 false], (.sl 1 1)⟩
abbrev Zt := List (Ls) × Int
abbrev Rt := List (Ls)
def t (values : List (Ls)) (out : List (Ls)) (t9:Int) (t10:Int) : Tr (Zt ⊕ Rt) :=
 .br (decide (t10 < t9)) (.chk ((0:Int) <= t10 ∧ t10 < (↑values.length:Int))<|.chk ((0:Nat) + t10.toNat < values.length)<|.call (qam.f (values.getD ((0:Nat) + t10.toNat) [])) fun y1 =>
  .okl values.length<|.okl out.length<|.okl y1.length<|.call (qbp.L6.f values out y1 (↑y1.length:Int) (0:Int)) fun y2 =>
  .okl values.length<|.okl y2.length<|.ret (.inl (y2, IntKind.i64.wrap (t10 + (1:Int)))))
 (.okl out.length<|.ret (.inr out))
def f (values : List (Ls)) (out : List (Ls)) (t9:Int) (t10:Int) := Loop (fun z : Zt => t values z.1 t9 z.2) (out, t10)
def F (x : D.den) := f x.1.1 x.1.2.1 x.2.2.2.1 x.2.2.2.2
def pa : D.den -> Rt -> A.den := fun ((values, (_, _)), (_, (_, (_, _)))) y1 => ((values, (y1, ())), ())
def lap : Lap := tlap 3 29 [3, 8, 9, 10] D (.exit 0) [3] A pa F
def pk (x : D.den) (z : Zt) : D.den := ((x.1.1, (z.1, ())), ((), ((), (x.2.2.2.1, z.2))))
def un (x : D.den) := (x.1.2.1, x.2.2.2.2)
def body (x : D.den) (z : Zt) := t x.1.1 z.1 x.2.2.2.1 z.2
theorem ok : zhe Tryz.prog 1 (codeOf Tryz.prog 99) lap := zil Base.mixed Base.prog_ok qao (by kernel_rfl) (by kernel_rfl) (.cons L6.ok (by kernel_rfl) (.nil)) 9 pk un body (fun _ _ => rfl) (fun _ _ => rfl) (fun _ _ => rfl) (fun _ => rfl) fun _ _ _ _ => (by kernel_rfl)
end L3
def A : Dom := ⟨[.vec .str 9 true, .vec .str 9 false], (.sl 1 1)⟩
abbrev Rt := List (Ls)
def t (values : List (Ls)) : Tr Rt :=
 .okl values.length<|.call (qbp.L3.f values [] (↑values.length:Int) (0:Int)) fun y1 =>
 .okl y1.length<|.ret y1
def f (values : List (Ls)) := (t values).val
def G (x : D.den) := t x.1.1
def F (x : D.den) := (G x).val
def pa : D.den -> Rt -> A.den := fun ((values, _), _) y1 => ((values, (y1, ())), ())
def con : Con := tcon D A pa F
theorem ok : zgu Tryz.prog 99 con := zij Base.mixed Base.prog_ok qao (by kernel_rfl) (.cons L6.ok (by kernel_rfl) (.cons L3.ok (by kernel_rfl) (.nil))) 9 (fun _ => rfl) G (fun _ => rfl) fun _ _ _ => (by kernel_rfl)
end qbp
def qbq : Book := qan.add 99 qbp.con
theorem qbr : zgv Tryz.prog qbq := qao.add qbp.ok
namespace qc4
def D : Dom := ⟨[.cells .str 9 false], (.cat (.int .u8) (.ptr 0 0 0 0))⟩
def A : Dom := ⟨[.cells .str 9 false], .bool⟩
def t (a1 : Ls) (c:Int) : Tr (Bool) :=
 .call (qa4.f a1 c) fun y1 =>
 .ret (decide (y1 ≥ (0:Int)))
def f (a1 : Ls) (c:Int) := (t a1 c).val
def G (x : D.den) := t x.1.1 x.2.1
def F (x : D.den) := (G x).val
def pa : D.den -> (Bool) -> A.den := fun ((a1, _), (_, _)) y1 => ((a1, ()), y1)
def con : Con := tcon D A pa F
theorem ok : zgu Tryz.prog 124 con := zij Base.mixed Base.prog_ok qbr (by kernel_rfl) zht.nil 9 (fun _ => rfl) G (fun _ => rfl) fun _ _ _ => (by kernel_rfl)
end qc4
def qc5 : Book := qbq.add 124 qc4.con
theorem qc6 : zgv Tryz.prog qc5 := qbr.add qc4.ok
namespace qca
def D : Dom := ⟨[.cells .str 9 false], (.cat .str (.func (.func 124) .nil (.ptr 0 0 0 0)))⟩
namespace L1
def D : Dom := qca.D
def A : Dom := qca.D
def t (r0 : Ls) (s : Ls) : Tr ((Ls) ⊕ (Ls)) :=
 .br (!s == []) (.chk ((0:Int) <= (0:Int) ∧ (0:Int) < (↑s.length:Int))<|.call (qc4.f r0 (↑(s.getD (Int.toNat (0:Int)) (0:UInt8)).toNat:Int)) fun y1 =>
  .br y1 (.chk ((0:Int) <= (1:Int) ∧ (1:Int) <= (↑s.length:Int) ∧ (↑s.length:Int) <= (↑s.length:Int))<|.ret (.inl (List.drop (Int.toNat (1:Int)) (List.take (↑s.length:Int).toNat s))))
  (.ret (.inr s)))
 (.ret (.inr s))
def f (r0 : Ls) (s : Ls) := Loop (fun z : Ls => t r0 z) s
def F (x : D.den) := f x.1.1 x.2.1
def pa : D.den -> (Ls) -> A.den := fun ((r0, _), (_, (_, _))) y1 => ((r0, ()), (y1, ((), ())))
def lap : Lap := tlap 1 32 [0, 1] D (.exit 0) [0, 1] A pa F
def pk (x : D.den) (z : Ls) : D.den := ((x.1.1, ()), (z, ((), ())))
def un (x : D.den) := x.2.1
def body (x : D.den) (z : Ls) := t x.1.1 z
theorem ok : zhe Tryz.prog 1 (codeOf Tryz.prog 107) lap := zil Base.mixed Base.prog_ok qc6 (by kernel_rfl) (by kernel_rfl) zht.nil 9 pk un body (fun _ _ => rfl) (fun _ _ => rfl) (fun _ _ => rfl) (fun _ => rfl) fun _ _ _ _ => (by kernel_rfl)
end L1
namespace L3
def D : Dom := qca.D
def A : Dom := ⟨[.cells .str 9 false], .str⟩
def t (r0 : Ls) (s : Ls) : Tr ((Ls) ⊕ (Ls)) :=
 .br (!s == []) (.chk ((0:Int) <= IntKind.i64.wrap ((↑s.length:Int) - (1:Int)) ∧ IntKind.i64.wrap ((↑s.length:Int) - (1:Int)) < (↑s.length:Int))<|.call (qc4.f r0 (↑(s.getD (IntKind.i64.wrap ((↑s.length:Int) - (1:Int))).toNat (0:UInt8)).toNat:Int)) fun y1 =>
  .br y1 (.chk ((0:Int) <= (0:Int) ∧ (0:Int) <= IntKind.i64.wrap ((↑s.length:Int) - (1:Int)) ∧ IntKind.i64.wrap ((↑s.length:Int) - (1:Int)) <= (↑s.length:Int))<|.ret (.inl (List.drop (↑(0:Nat):Int).toNat (List.take (IntKind.i64.wrap ((↑s.length:Int) - (1:Int))).toNat s))))
  (.ret (.inr s)))
 (.ret (.inr s))
def f (r0 : Ls) (s : Ls) := Loop (fun z : Ls => t r0 z) s
def F (x : D.den) := f x.1.1 x.2.1
def pa : D.den -> (Ls) -> A.den := fun ((r0, _), (_, (_, _))) y1 => ((r0, ()), y1)
def lap : Lap := tlap 3 32 [0, 1] D (.exit 2) [0] A pa F
def pk (x : D.den) (z : Ls) : D.den := ((x.1.1, ()), (z, ((), ())))
def un (x : D.den) := x.2.1
def body (x : D.den) (z : Ls) := t x.1.1 z
theorem ok : zhe Tryz.prog 1 (codeOf Tryz.prog 107) lap := zil Base.mixed Base.prog_ok qc6 (by kernel_rfl) (by kernel_rfl) zht.nil 9 pk un body (fun _ _ => rfl) (fun _ _ => rfl) (fun _ _ => rfl) (fun _ => rfl) fun _ _ _ _ => (by kernel_rfl)
end L3
def A : Dom := ⟨[.cells .str 9 false], .str⟩
def t (vis : Ls) (s : Ls) : Tr (Ls) :=
 .call (qca.L1.f vis s) fun y1 =>
 .call (qca.L3.f vis y1) fun y2 =>
 .ret y2
def f (vis : Ls) (s : Ls) := (t vis s).val
def G (x : D.den) := t x.1.1 x.2.1
def F (x : D.den) := (G x).val
def pa : D.den -> (Ls) -> A.den := fun ((vis, _), (_, (_, _))) y1 => ((vis, ()), y1)
def con : Con := tcon D A pa F
theorem ok : zgu Tryz.prog 107 con := zij Base.mixed Base.prog_ok qc6 (by kernel_rfl) (.cons L1.ok (by kernel_rfl) (.cons L3.ok (by kernel_rfl) (.nil))) 9 (fun _ => rfl) G (fun _ => rfl) fun _ _ _ => (by kernel_rfl)
end qca
def qcb : Book := qc5.addS 107 (fun a => zik 1 124 a) qca.con
theorem qcc : zgv Tryz.prog qcb := qc6.addS qca.ok
namespace qc1
def D : Dom := ⟨[], (.cat .str .str)⟩
def A : Dom := ⟨[], .str⟩
def t (s : Ls) (set : Ls) : Tr (Ls) :=
 .call (qca.f set s) fun y1 =>
 .ret y1
def f (s : Ls) (set : Ls) := (t s set).val
def G (x : D.den) := t x.2.1 x.2.2
def F (x : D.den) := (G x).val
def pa : D.den -> (Ls) -> A.den := fun (_, (_, _)) y1 => ((), y1)
def con : Con := tcon D A pa F
theorem ok : zgu Tryz.prog 100 con := zij Base.mixed Base.prog_ok qcc (by kernel_rfl) zht.nil 9 (fun _ => rfl) G (fun _ => rfl) fun _ _ _ => (by kernel_rfl)
end qc1
def qc2 : Book := qcb.add 100 qc1.con
theorem qc3 : zgv Tryz.prog qc2 := qcc.add qc1.ok
namespace q94
def D : Dom := ⟨[.vec .str 9 true], (.cat (.sl 0 1) (.lit (.str false [99, 104, 117, 110, 107, 101, 100])))⟩
namespace L2
def D : Dom := ⟨[.vec .str 9 true], (.cat (.sl 0 1) (.cat (.lit (.str false [99, 104, 117, 110, 107, 101, 100])) (.cat (.int .i64) (.int .i64))))⟩
def A : Dom := ⟨[.vec .str 9 true], .nil⟩
def B : Dom := ⟨[.vec .str 9 true], (.int .i64)⟩
def t (s : List (Ls)) (t7:Int) (t8:Int) : Tr ((Int) ⊕ ((Unit) ⊕ (Int))) :=
 .br (decide (t8 < t7)) (.chk ((0:Int) <= t8 ∧ t8 < (↑s.length:Int))<|.chk ((0:Nat) + t8.toNat < s.length)<|.br ([(99:UInt8), 104, 117, 110, 107, 101, 100] == s.getD ((0:Nat) + t8.toNat) []) (.ret (.inr (.inr t8)))
  (.okl s.length<|.ret (.inl (IntKind.i64.wrap (t8 + (1:Int))))))
 (.ret (.inr (.inl ())))
def f (s : List (Ls)) (t7:Int) (t8:Int) := Loop (fun z : Int => t s t7 z) t8
def F (x : D.den) := f x.1.1 x.2.2.2.1 x.2.2.2.2
def pa : D.den -> (Unit) -> A.den := fun ((s, _), (_, (_, (_, _)))) _ => ((s, ()), ())
def pb : D.den -> (Int) -> B.den := fun ((s, _), (_, (_, (_, _)))) y1 => ((s, ()), y1)
def lap : Lap := zim 2 19 [0, 1, 7, 8] D (.exit 0) [] A .ret [4] B pa pb F
def pk (x : D.den) (z:Int) : D.den := ((x.1.1, ()), ((), ((), (x.2.2.2.1, z))))
def un (x : D.den) := x.2.2.2.2
def body (x : D.den) (z:Int) := t x.1.1 x.2.2.2.1 z
theorem ok : zhe Tryz.prog 1 (codeOf Tryz.prog 102) lap := zin Base.mixed Base.prog_ok qc3 (by kernel_rfl) (by kernel_rfl) zht.nil 9 pk un body (fun _ _ => rfl) (fun _ _ => rfl) (fun _ _ => rfl) (fun _ _ => rfl) (fun _ => rfl) fun _ _ _ _ => (by kernel_rfl)
end L2
def A : Dom := ⟨[.vec .str 9 true], (.int .i64)⟩
def t (s : List (Ls)) : Tr (Int) :=
 .okl s.length<|.both (q94.L2.f s (↑s.length:Int) (0:Int)) (fun _ => .ret (-1:Int))
 (fun y2 => .ret y2)
def f (s : List (Ls)) := (t s).val
def G (x : D.den) := t x.1.1
def F (x : D.den) := (G x).val
def pa : D.den -> (Int) -> A.den := fun ((s, _), (_, _)) y1 => ((s, ()), y1)
def con : Con := tcon D A pa F
theorem ok : zgu Tryz.prog 102 con := zij Base.mixed Base.prog_ok qc3 (by kernel_rfl) (.cons L2.ok (by kernel_rfl) (.nil)) 9 (fun _ => rfl) G (fun _ => rfl) fun _ _ _ => (by kernel_rfl)
end q94
def q95 : Book := qc2.addS 102 (fun a => ziq 1 [99, 104, 117, 110, 107, 101, 100] a) q94.con
theorem q96 : zgv Tryz.prog q95 := qc3.addS q94.ok
namespace q0r
def D : Dom := ⟨[.vec .str 9 true], (.cat (.int .u32) (.sl 0 1))⟩
namespace L3
def D : Dom := ⟨[.vec .str 9 true, .vec .str 9 false], (.cat (.int .u32) (.cat (.sl 1 1) (.cat (.sl 1 1) (.cat (.int .i64) (.int .i64)))))⟩
def A : Dom := ⟨[.vec .str 9 true, .vec .str 9 false], (.cat (.int .u32) (.sl 1 1))⟩
abbrev Zt := List (Ls) × Int
abbrev Rt := List (Ls)
def t (l : List (Ls)) (p:Int) (t12:Int) (t13:Int) : Tr (Zt ⊕ Rt) :=
 .br (decide (t13 < t12)) (.chk ((0:Int) <= t13 ∧ t13 < (↑l.length:Int))<|.chk ((0:Nat) + t13.toNat < l.length)<|.call (q5p.f p (17:Int)) fun y1 =>
  .br y1 (.call (qc1.f (l.getD ((0:Nat) + t13.toNat) []) [(11:UInt8), 12, 32, 9]) fun y2 =>
  .call (qbs.f y2) fun y3 =>
  .chk ((0:Int) <= t13 ∧ t13 < (↑l.length:Int))<|.chk ((0:Nat) + t13.toNat < l.length)<|.okl l.length<|.chk ((0:Nat) = (0:Nat) ∧ l.length = (l.set ((0:Nat) + t13.toNat) y3).length)<|.ret (.inl (l.set ((0:Nat) + t13.toNat) y3, IntKind.i64.wrap (t13 + (1:Int)))))
  (.call (qbs.f (l.getD ((0:Nat) + t13.toNat) [])) fun y4 =>
  .chk ((0:Int) <= t13 ∧ t13 < (↑l.length:Int))<|.chk ((0:Nat) + t13.toNat < l.length)<|.okl l.length<|.chk ((0:Nat) = (0:Nat) ∧ l.length = (l.set ((0:Nat) + t13.toNat) y4).length)<|.ret (.inl (l.set ((0:Nat) + t13.toNat) y4, IntKind.i64.wrap (t13 + (1:Int))))))
 (.okl l.length<|.ret (.inr l))
def f (l : List (Ls)) (p:Int) (t12:Int) (t13:Int) := Loop (fun z : Zt => t z.1 p t12 z.2) (l, t13)
def F (x : D.den) := f x.1.2.1 x.2.1 x.2.2.2.2.1 x.2.2.2.2.2
def pa : D.den -> Rt -> A.den := fun ((values, (_, _)), (p, (_, (_, (_, _))))) y1 => ((values, (y1, ())), (p, ()))
def lap : Lap := tlap 3 46 [0, 5, 11, 12, 13] D (.exit 0) [0, 5] A pa F
def pk (x : D.den) (z : Zt) : D.den := ((x.1.1, (z.1, ())), (x.2.1, ((), ((), (x.2.2.2.2.1, z.2)))))
def un (x : D.den) := (x.1.2.1, x.2.2.2.2.2)
def body (x : D.den) (z : Zt) := t z.1 x.2.1 x.2.2.2.2.1 z.2
theorem ok : zhe Tryz.prog 1 (codeOf Tryz.prog 76) lap := zil Base.mixed Base.prog_ok q96 (by kernel_rfl) (by kernel_rfl) zht.nil 9 pk un body (fun _ _ => rfl) (fun _ _ => rfl) (fun _ _ => rfl) (fun _ => rfl) fun _ _ _ _ => (by kernel_rfl)
end L3
def A : Dom := ⟨[.vec .str 9 true], .bool⟩
def t (values : List (Ls)) (p:Int) : Tr (Bool) :=
 .chk ((0:Nat) + values.length <= values.length)<|.call (qbp.f (List.take values.length (List.drop (0:Nat) values))) fun y1 =>
 .okl y1.length<|.okl y1.length<|.call (q0r.L3.f y1 p (↑y1.length:Int) (0:Int)) fun y2 =>
 .br (decide (IntKind.i64.wrap ((↑y2.length:Int) - (1:Int)) < (0:Int))) (.ret false)
 (.br (decide (IntKind.i64.wrap ((↑y2.length:Int) - (1:Int)) > (0:Int))) (.call (q5p.f p (18:Int)) fun y3 =>
  .br (!y3) (.ret false)
  (.chk ((0:Nat) + y2.length <= y2.length)<|.call (q94.f (List.take y2.length (List.drop (0:Nat) y2))) fun y4 =>
   .ret (y4 == IntKind.i64.wrap ((↑y2.length:Int) - (1:Int)))))
  (.chk ((0:Nat) + y2.length <= y2.length)<|.call (q94.f (List.take y2.length (List.drop (0:Nat) y2))) fun y5 =>
  .ret (y5 == IntKind.i64.wrap ((↑y2.length:Int) - (1:Int)))))
def f (values : List (Ls)) (p:Int) := (t values p).val
def G (x : D.den) := t x.1.1 x.2.1
def F (x : D.den) := (G x).val
def pa : D.den -> (Bool) -> A.den := fun ((values, _), (_, _)) y1 => ((values, ()), y1)
def con : Con := tcon D A pa F
theorem ok : zgu Tryz.prog 76 con := zij Base.mixed Base.prog_ok q96 (by kernel_rfl) (.cons L3.ok (by kernel_rfl) (.nil)) 9 (fun _ => rfl) G (fun _ => rfl) fun _ _ _ => (by kernel_rfl)
end q0r
def q0s : Book := q95.add 76 q0r.con
theorem q0t : zgv Tryz.prog q0s := q96.add q0r.ok
namespace q8v
def D : Dom := ⟨[.vec .str 9 true, .cells .str 9 false], (.cat (.sl 0 1) (.func (.func 103) .nil (.ptr 1 0 0 0)))⟩
namespace L2
def D : Dom := ⟨[.vec .str 9 true, .cells .str 9 false], (.cat (.sl 0 1) (.cat (.func (.func 103) .nil (.ptr 1 0 0 0)) (.cat (.int .i64) (.int .i64))))⟩
def A : Dom := ⟨[.vec .str 9 true, .cells .str 9 false], .nil⟩
def B : Dom := ⟨[.vec .str 9 true, .cells .str 9 false], (.int .i64)⟩
def t (s : List (Ls)) (r1 : Ls) (t7:Int) (t8:Int) : Tr ((Int) ⊕ ((Unit) ⊕ (Int))) :=
 .br (decide (t8 < t7)) (.chk ((0:Int) <= t8 ∧ t8 < (↑s.length:Int))<|.chk ((0:Nat) + t8.toNat < s.length)<|.br (!s.getD ((0:Nat) + t8.toNat) [] == r1) (.ret (.inr (.inr t8)))
  (.okl s.length<|.ret (.inl (IntKind.i64.wrap (t8 + (1:Int))))))
 (.ret (.inr (.inl ())))
def f (s : List (Ls)) (r1 : Ls) (t7:Int) (t8:Int) := Loop (fun z : Int => t s r1 t7 z) t8
def F (x : D.den) := f x.1.1 x.1.2.1 x.2.2.2.1 x.2.2.2.2
def pa : D.den -> (Unit) -> A.den := fun ((s, (r1, _)), (_, ((_, _), (_, _)))) _ => ((s, (r1, ())), ())
def pb : D.den -> (Int) -> B.den := fun ((s, (r1, _)), (_, ((_, _), (_, _)))) y1 => ((s, (r1, ())), y1)
def lap : Lap := zim 2 19 [0, 1, 7, 8] D (.exit 0) [] A .ret [4] B pa pb F
def pk (x : D.den) (z:Int) : D.den := ((x.1.1, (x.1.2.1, ())), ((), (((), ()), (x.2.2.2.1, z))))
def un (x : D.den) := x.2.2.2.2
def body (x : D.den) (z:Int) := t x.1.1 x.1.2.1 x.2.2.2.1 z
theorem ok : zhe Tryz.prog 2 (codeOf Tryz.prog 122) lap := zin Base.mixed Base.prog_ok q0t (by kernel_rfl) (by kernel_rfl) zht.nil 9 pk un body (fun _ _ => rfl) (fun _ _ => rfl) (fun _ _ => rfl) (fun _ _ => rfl) (fun _ => rfl) fun _ _ _ _ => (by kernel_rfl)
end L2
def A : Dom := ⟨[.vec .str 9 true, .cells .str 9 false], (.int .i64)⟩
def t (s : List (Ls)) (vf : Ls) : Tr (Int) :=
 .okl s.length<|.both (q8v.L2.f s vf (↑s.length:Int) (0:Int)) (fun _ => .ret (-1:Int))
 (fun y2 => .ret y2)
def f (s : List (Ls)) (vf : Ls) := (t s vf).val
def G (x : D.den) := t x.1.1 x.1.2.1
def F (x : D.den) := (G x).val
def pa : D.den -> (Int) -> A.den := fun ((s, (vf, _)), (_, (_, _))) y1 => ((s, (vf, ())), y1)
def con : Con := tcon D A pa F
theorem ok : zgu Tryz.prog 122 con := zij Base.mixed Base.prog_ok q0t (by kernel_rfl) (.cons L2.ok (by kernel_rfl) (.nil)) 9 (fun _ => rfl) G (fun _ => rfl) fun _ _ _ => (by kernel_rfl)
end q8v
def q8w : Book := q0s.addS 122 (fun a => zik 1 103 a) q8v.con
theorem q8x : zgv Tryz.prog q8w := q0t.addS q8v.ok
namespace q8d
def D : Dom := q8v.D
def A : Dom := ⟨[.vec .str 9 true, .cells .str 9 false], .bool⟩
def t (s : List (Ls)) (vf : Ls) : Tr (Bool) :=
 .chk ((0:Nat) + s.length <= s.length)<|.call (q8v.f (List.take s.length (List.drop (0:Nat) s)) vf) fun y1 =>
 .ret (decide (y1 ≥ (0:Int)))
def f (s : List (Ls)) (vf : Ls) := (t s vf).val
def G (x : D.den) := t x.1.1 x.1.2.1
def F (x : D.den) := (G x).val
def pa : D.den -> (Bool) -> A.den := fun ((s, (vf, _)), (_, (_, _))) y1 => ((s, (vf, ())), y1)
def con : Con := tcon D A pa F
theorem ok : zgu Tryz.prog 96 con := zij Base.mixed Base.prog_ok q8x (by kernel_rfl) zht.nil 9 (fun _ => rfl) G (fun _ => rfl) fun _ _ _ => (by kernel_rfl)
end q8d
def q8e : Book := q8w.addS 96 (fun a => zik 1 103 a) q8d.con
theorem q8f : zgv Tryz.prog q8e := q8x.addS q8d.ok
namespace q1l
def D : Dom := ⟨[], (.cat .str (.lit (.str false [43])))⟩
def A : Dom := ⟨[], .bool⟩
def t (s : Ls) : Tr (Bool) :=
 .br (decide ((↑s.length:Int) ≥ (1:Int))) (.chk ((0:Int) <= (0:Int) ∧ (0:Int) <= (1:Int) ∧ (1:Int) <= (↑s.length:Int))<|.ret (List.drop (↑(0:Nat):Int).toNat (List.take (Int.toNat (1:Int)) s) == [(43:UInt8)]))
 (.ret false)
def f (s : Ls) := (t s).val
def G (x : D.den) := t x.2.1
def F (x : D.den) := (G x).val
def pa : D.den -> (Bool) -> A.den := fun (_, (_, _)) y1 => ((), y1)
def con : Con := tcon D A pa F
theorem ok : zgu Tryz.prog 113 con := zij Base.mixed Base.prog_ok q8f (by kernel_rfl) zht.nil 9 (fun _ => rfl) G (fun _ => rfl) fun _ _ _ => (by kernel_rfl)
end q1l
def q1m : Book := q8e.addS 113 (fun a => ziq 1 [43] a) q1l.con
theorem q1n : zgv Tryz.prog q1m := q8f.addS q1l.ok
namespace q26
def D : Dom := ⟨[], (.cat .str (.lit (.str false [43])))⟩
def A : Dom := ⟨[], .str⟩
def t (s : Ls) : Tr (Ls) :=
 .call (q1l.f s) fun y1 =>
 .br y1 (.chk ((0:Int) <= (1:Int) ∧ (1:Int) <= (↑s.length:Int) ∧ (↑s.length:Int) <= (↑s.length:Int))<|.ret (List.drop (Int.toNat (1:Int)) (List.take (↑s.length:Int).toNat s)))
 (.ret s)
def f (s : Ls) := (t s).val
def G (x : D.den) := t x.2.1
def F (x : D.den) := (G x).val
def pa : D.den -> (Ls) -> A.den := fun (_, (_, _)) y1 => ((), y1)
def con : Con := tcon D A pa F
theorem ok : zgu Tryz.prog 126 con := zij Base.mixed Base.prog_ok q1n (by kernel_rfl) zht.nil 9 (fun _ => rfl) G (fun _ => rfl) fun _ _ _ => (by kernel_rfl)
end q26
def q27 : Book := q1m.addS 126 (fun a => ziq 1 [43] a) q26.con
theorem q28 : zgv Tryz.prog q27 := q1n.addS q26.ok
namespace qap
def D : Dom := ⟨[], (.cat .str (.lit (.str false [43])))⟩
def A : Dom := ⟨[], .str⟩
def t (s : Ls) : Tr (Ls) :=
 .call (q26.f s) fun y1 =>
 .ret y1
def f (s : Ls) := (t s).val
def G (x : D.den) := t x.2.1
def F (x : D.den) := (G x).val
def pa : D.den -> (Ls) -> A.den := fun (_, (_, _)) y1 => ((), y1)
def con : Con := tcon D A pa F
theorem ok : zgu Tryz.prog 104 con := zij Base.mixed Base.prog_ok q28 (by kernel_rfl) zht.nil 9 (fun _ => rfl) G (fun _ => rfl) fun _ _ _ => (by kernel_rfl)
end qap
def qaq : Book := q27.addS 104 (fun a => ziq 1 [43] a) qap.con
theorem qar : zgv Tryz.prog qaq := q28.addS qap.ok
namespace q13
def D : Dom := ⟨[.vec .str 9 true], (.cat (.int .u32) (.cat (.int .i64) (.sl 0 1)))⟩
def A : Dom := ⟨[.vec .str 9 true], (.tup (.cat (.int .i64) (.int .i64)))⟩
def t (values : List (Ls)) (p:Int) (most:Int) : Tr (Int × Int) :=
 .call (q5p.f p (24:Int)) fun y1 =>
 .br y1 (.chk ((0:Nat) + values.length <= values.length)<|.call (qbp.f (List.take values.length (List.drop (0:Nat) values))) fun y2 =>
  .br ((↑y2.length:Int) == (0:Int)) (.ret ((0:Int), (0:Int)))
  (.chk ((0:Int) <= (0:Int) ∧ (0:Int) < (↑y2.length:Int))<|.chk ((0:Nat) < y2.length)<|.chk ((0:Int) <= IntKind.i64.wrap ((↑y2.length:Int) - (1:Int)) ∧ IntKind.i64.wrap ((↑y2.length:Int) - (1:Int)) < (↑y2.length:Int))<|.chk ((0:Nat) + (IntKind.i64.wrap ((↑y2.length:Int) - (1:Int))).toNat < y2.length)<|.chk ((0:Nat) + y2.length <= y2.length)<|.call (q8d.f (List.take y2.length (List.drop (0:Nat) y2)) (y2.getD (0:Nat) [])) fun y3 =>
  .br ((↑y2.length:Int) == (1:Int)) (.call (q5p.f p (23:Int)) fun y4 =>
   .br y4 (.call (qap.f (y2.getD (0:Nat) [])) fun y5 =>
   .call (q2v.f y5 most) fun (y6a, y6b) =>
   .br (y6b == (23:Int)) (.ret ((0:Int), (413:Int)))
   (.br (y6b == (22:Int)) (.ret ((0:Int), (400:Int)))
    (.ret (y6a, (0:Int)))))
   (.call (q2v.f (y2.getD (0:Nat) []) most) fun (y7a, y7b) =>
   .br (y7b == (23:Int)) (.ret ((0:Int), (413:Int)))
   (.br (y7b == (22:Int)) (.ret ((0:Int), (400:Int)))
    (.ret (y7a, (0:Int))))))
  (.br (!y3) (.call (q5p.f p (24:Int)) fun y8 =>
   .br y8 (.call (q5p.f p (23:Int)) fun y9 =>
    .br y9 (.call (qap.f (y2.getD (0:Nat) [])) fun y10 =>
    .call (q2v.f y10 most) fun (y11a, y11b) =>
    .br (y11b == (23:Int)) (.ret ((0:Int), (413:Int)))
    (.br (y11b == (22:Int)) (.ret ((0:Int), (400:Int)))
     (.ret (y11a, (0:Int)))))
    (.call (q2v.f (y2.getD (0:Nat) []) most) fun (y12a, y12b) =>
    .br (y12b == (23:Int)) (.ret ((0:Int), (413:Int)))
    (.br (y12b == (22:Int)) (.ret ((0:Int), (400:Int)))
     (.ret (y12a, (0:Int))))))
   (.call (q5p.f p (25:Int)) fun y13 =>
    .br y13 (.call (q5p.f p (23:Int)) fun y14 =>
    .br y14 (.call (qap.f (y2.getD (0:Nat) [])) fun y15 =>
     .call (q2v.f y15 most) fun (y16a, y16b) =>
     .br (y16b == (23:Int)) (.ret ((0:Int), (413:Int)))
     (.br (y16b == (22:Int)) (.ret ((0:Int), (400:Int)))
     (.ret (y16a, (0:Int)))))
    (.call (q2v.f (y2.getD (0:Nat) []) most) fun (y17a, y17b) =>
     .br (y17b == (23:Int)) (.ret ((0:Int), (413:Int)))
     (.br (y17b == (22:Int)) (.ret ((0:Int), (400:Int)))
     (.ret (y17a, (0:Int))))))
    (.call (q5p.f p (26:Int)) fun y18 =>
    .br y18 (.call (q5p.f p (23:Int)) fun y19 =>
     .br y19 (.call (qap.f (y2.getD ((0:Nat) + (IntKind.i64.wrap ((↑y2.length:Int) - (1:Int))).toNat) [])) fun y20 =>
     .call (q2v.f y20 most) fun (y21a, y21b) =>
     .br (y21b == (23:Int)) (.ret ((0:Int), (413:Int)))
     (.br (y21b == (22:Int)) (.ret ((0:Int), (400:Int)))
      (.ret (y21a, (0:Int)))))
     (.call (q2v.f (y2.getD ((0:Nat) + (IntKind.i64.wrap ((↑y2.length:Int) - (1:Int))).toNat) []) most) fun (y22a, y22b) =>
     .br (y22b == (23:Int)) (.ret ((0:Int), (413:Int)))
     (.br (y22b == (22:Int)) (.ret ((0:Int), (400:Int)))
      (.ret (y22a, (0:Int))))))
    (.ret ((0:Int), (400:Int))))))
   (.call (q5p.f p (25:Int)) fun y23 =>
   .br y23 (.call (q5p.f p (23:Int)) fun y24 =>
    .br y24 (.call (qap.f (y2.getD (0:Nat) [])) fun y25 =>
    .call (q2v.f y25 most) fun (y26a, y26b) =>
    .br (y26b == (23:Int)) (.ret ((0:Int), (413:Int)))
    (.br (y26b == (22:Int)) (.ret ((0:Int), (400:Int)))
     (.ret (y26a, (0:Int)))))
    (.call (q2v.f (y2.getD (0:Nat) []) most) fun (y27a, y27b) =>
    .br (y27b == (23:Int)) (.ret ((0:Int), (413:Int)))
    (.br (y27b == (22:Int)) (.ret ((0:Int), (400:Int)))
     (.ret (y27a, (0:Int))))))
   (.call (q5p.f p (26:Int)) fun y28 =>
    .br y28 (.call (q5p.f p (23:Int)) fun y29 =>
    .br y29 (.call (qap.f (y2.getD ((0:Nat) + (IntKind.i64.wrap ((↑y2.length:Int) - (1:Int))).toNat) [])) fun y30 =>
     .call (q2v.f y30 most) fun (y31a, y31b) =>
     .br (y31b == (23:Int)) (.ret ((0:Int), (413:Int)))
     (.br (y31b == (22:Int)) (.ret ((0:Int), (400:Int)))
     (.ret (y31a, (0:Int)))))
    (.call (q2v.f (y2.getD ((0:Nat) + (IntKind.i64.wrap ((↑y2.length:Int) - (1:Int))).toNat) []) most) fun (y32a, y32b) =>
     .br (y32b == (23:Int)) (.ret ((0:Int), (413:Int)))
     (.br (y32b == (22:Int)) (.ret ((0:Int), (400:Int)))
     (.ret (y32a, (0:Int))))))
    (.ret ((0:Int), (400:Int))))))))
 (.br ((↑values.length:Int) == (0:Int)) (.ret ((0:Int), (0:Int)))
  (.chk ((0:Int) <= (0:Int) ∧ (0:Int) < (↑values.length:Int))<|.chk ((0:Nat) < values.length)<|.chk ((0:Int) <= IntKind.i64.wrap ((↑values.length:Int) - (1:Int)) ∧ IntKind.i64.wrap ((↑values.length:Int) - (1:Int)) < (↑values.length:Int))<|.chk ((0:Nat) + (IntKind.i64.wrap ((↑values.length:Int) - (1:Int))).toNat < values.length)<|.chk ((0:Nat) + values.length <= values.length)<|.call (q8d.f (List.take values.length (List.drop (0:Nat) values)) (values.getD (0:Nat) [])) fun y33 =>
  .br ((↑values.length:Int) == (1:Int)) (.call (q5p.f p (23:Int)) fun y34 =>
   .br y34 (.call (qap.f (values.getD (0:Nat) [])) fun y35 =>
   .call (q2v.f y35 most) fun (y36a, y36b) =>
   .br (y36b == (23:Int)) (.ret ((0:Int), (413:Int)))
   (.br (y36b == (22:Int)) (.ret ((0:Int), (400:Int)))
    (.ret (y36a, (0:Int)))))
   (.call (q2v.f (values.getD (0:Nat) []) most) fun (y37a, y37b) =>
   .br (y37b == (23:Int)) (.ret ((0:Int), (413:Int)))
   (.br (y37b == (22:Int)) (.ret ((0:Int), (400:Int)))
    (.ret (y37a, (0:Int))))))
  (.br (!y33) (.call (q5p.f p (24:Int)) fun y38 =>
   .br y38 (.call (q5p.f p (23:Int)) fun y39 =>
    .br y39 (.call (qap.f (values.getD (0:Nat) [])) fun y40 =>
    .call (q2v.f y40 most) fun (y41a, y41b) =>
    .br (y41b == (23:Int)) (.ret ((0:Int), (413:Int)))
    (.br (y41b == (22:Int)) (.ret ((0:Int), (400:Int)))
     (.ret (y41a, (0:Int)))))
    (.call (q2v.f (values.getD (0:Nat) []) most) fun (y42a, y42b) =>
    .br (y42b == (23:Int)) (.ret ((0:Int), (413:Int)))
    (.br (y42b == (22:Int)) (.ret ((0:Int), (400:Int)))
     (.ret (y42a, (0:Int))))))
   (.call (q5p.f p (25:Int)) fun y43 =>
    .br y43 (.call (q5p.f p (23:Int)) fun y44 =>
    .br y44 (.call (qap.f (values.getD (0:Nat) [])) fun y45 =>
     .call (q2v.f y45 most) fun (y46a, y46b) =>
     .br (y46b == (23:Int)) (.ret ((0:Int), (413:Int)))
     (.br (y46b == (22:Int)) (.ret ((0:Int), (400:Int)))
     (.ret (y46a, (0:Int)))))
    (.call (q2v.f (values.getD (0:Nat) []) most) fun (y47a, y47b) =>
     .br (y47b == (23:Int)) (.ret ((0:Int), (413:Int)))
     (.br (y47b == (22:Int)) (.ret ((0:Int), (400:Int)))
     (.ret (y47a, (0:Int))))))
    (.call (q5p.f p (26:Int)) fun y48 =>
    .br y48 (.call (q5p.f p (23:Int)) fun y49 =>
     .br y49 (.call (qap.f (values.getD ((0:Nat) + (IntKind.i64.wrap ((↑values.length:Int) - (1:Int))).toNat) [])) fun y50 =>
     .call (q2v.f y50 most) fun (y51a, y51b) =>
     .br (y51b == (23:Int)) (.ret ((0:Int), (413:Int)))
     (.br (y51b == (22:Int)) (.ret ((0:Int), (400:Int)))
      (.ret (y51a, (0:Int)))))
     (.call (q2v.f (values.getD ((0:Nat) + (IntKind.i64.wrap ((↑values.length:Int) - (1:Int))).toNat) []) most) fun (y52a, y52b) =>
     .br (y52b == (23:Int)) (.ret ((0:Int), (413:Int)))
     (.br (y52b == (22:Int)) (.ret ((0:Int), (400:Int)))
      (.ret (y52a, (0:Int))))))
    (.ret ((0:Int), (400:Int))))))
   (.call (q5p.f p (25:Int)) fun y53 =>
   .br y53 (.call (q5p.f p (23:Int)) fun y54 =>
    .br y54 (.call (qap.f (values.getD (0:Nat) [])) fun y55 =>
    .call (q2v.f y55 most) fun (y56a, y56b) =>
    .br (y56b == (23:Int)) (.ret ((0:Int), (413:Int)))
    (.br (y56b == (22:Int)) (.ret ((0:Int), (400:Int)))
     (.ret (y56a, (0:Int)))))
    (.call (q2v.f (values.getD (0:Nat) []) most) fun (y57a, y57b) =>
    .br (y57b == (23:Int)) (.ret ((0:Int), (413:Int)))
    (.br (y57b == (22:Int)) (.ret ((0:Int), (400:Int)))
     (.ret (y57a, (0:Int))))))
   (.call (q5p.f p (26:Int)) fun y58 =>
    .br y58 (.call (q5p.f p (23:Int)) fun y59 =>
    .br y59 (.call (qap.f (values.getD ((0:Nat) + (IntKind.i64.wrap ((↑values.length:Int) - (1:Int))).toNat) [])) fun y60 =>
     .call (q2v.f y60 most) fun (y61a, y61b) =>
     .br (y61b == (23:Int)) (.ret ((0:Int), (413:Int)))
     (.br (y61b == (22:Int)) (.ret ((0:Int), (400:Int)))
     (.ret (y61a, (0:Int)))))
    (.call (q2v.f (values.getD ((0:Nat) + (IntKind.i64.wrap ((↑values.length:Int) - (1:Int))).toNat) []) most) fun (y62a, y62b) =>
     .br (y62b == (23:Int)) (.ret ((0:Int), (413:Int)))
     (.br (y62b == (22:Int)) (.ret ((0:Int), (400:Int)))
     (.ret (y62a, (0:Int))))))
    (.ret ((0:Int), (400:Int))))))))
def f (values : List (Ls)) (p:Int) (most:Int) := (t values p most).val
def G (x : D.den) := t x.1.1 x.2.1 x.2.2.1
def F (x : D.den) := (G x).val
def pa : D.den -> (Int × Int) -> A.den := fun ((values, _), (_, (_, _))) (y1, y2) => ((values, ()), (y1, y2))
def con : Con := tcon D A pa F
theorem ok : zgu Tryz.prog 77 con := zij Base.mixed Base.prog_ok qar (by kernel_rfl) zht.nil 9 (fun _ => rfl) G (fun _ => rfl) fun _ _ _ => (by kernel_rfl)
end q13
def q14 : Book := qaq.add 77 q13.con
theorem q15 : zgv Tryz.prog q14 := qar.add q13.ok
end Go.Vx
end
