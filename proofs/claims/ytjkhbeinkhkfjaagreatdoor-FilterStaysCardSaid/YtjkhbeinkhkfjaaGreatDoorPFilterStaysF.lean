/- Printed by a program of ours out of our texts: the evaluator, the printed functions, the plain laws. (A help: no statement of the seat is proved here.) -/
import Derived.Test.YtjkhbeinkhkfjaaGreatDoorPFilterStaysE
import Derived.Lib.FieldsP
set_option linter.unusedVariables false
set_option linter.unusedSimpArgs false
section
set_option maxRecDepth 100000
namespace Go.Vx
namespace Pl
open Go Go.Proofs
theorem vokl {α : Type} (n:Nat) (a : Tr α) : (Tr.okl n a).val = a.val := rfl
def FitF (l : List (List UInt8 × List UInt8)) : Prop := l.length <= 1000000 ∧ ∀ f ∈ l, f.1.length <= 1000000 ∧ f.2.length <= 1000000
theorem zoi {l : List (List UInt8 × List UInt8)} {name : List UInt8} (h : FitF l) (hname : name.length <= 1000000) : qbm.f l name = some (zkg l name) :=
 zlz (fun f hf => by have := (h.2 f hf).1; omega) (by omega) (by have := h.1; omega)
theorem zoj {l : List (List UInt8 × List UInt8)} {name : List UInt8} (h : FitF l) : (zkg l name).length <= 1000000 ∧ ∀ x ∈ zkg l name, x.length <= 1000000 := by
 unfold zkg
 constructor
 ·rw [List.length_map]
  have := List.length_filter_le (fun f => same f.1 name) l
  have := h.1
  omega
 ·intro x hx
  obtain ⟨f, hf, rfl⟩ := List.mem_map.1 hx
  exact (h.2 f (List.mem_filter.1 hf).1).2
theorem zok (values : List (List UInt8)) : ∀ (M:Nat), (∀ x ∈ values, x.length <= M) -> (zkf values).length <= values.length * (M + 1) := by
 intro M h
 induction values with
 | nil => simp [zkf]
 | cons v l ih =>
  have e : zkf (v :: l) = (zke 44 v).map trim ++ zkf l := by simp [zkf]
  rw [e, List.length_append, List.length_map, List.length_cons, zkr 44 v.length v (Nat.le_refl _)]
  have h1 := h v (List.mem_cons_self ..)
  have h2 : v.count 44 <= v.length := List.count_le_length
  have h3 := ih fun x hx => h x (List.mem_cons_of_mem _ hx)
  have h4 : (l.length + 1) * (M + 1) = l.length * (M + 1) + (M + 1) := by rw [Nat.succ_mul]
  omega
theorem zol (values : List (List UInt8)) (M:Nat) (h : ∀ x ∈ values, x.length <= M) : ∀ x ∈ zkf values, x.length <= M := by
 intro x hx
 unfold zkf at hx
 obtain ⟨v, hv, hx⟩ := List.mem_flatMap.1 hx
 obtain ⟨y, hy, rfl⟩ := List.mem_map.1 hx
 have h1 := zlu v.length (Nat.le_refl _) y hy
 have h2 := zkd zjd y
 have := h v hv
 unfold trim
 omega
theorem zom {values : List (List UInt8)} (h1 : values.length <= 1000000) (h2 : ∀ x ∈ values, x.length <= 1000000) : qbp.f values = some (zkf values) := by
 refine zly (fun x hx => by have := h2 x hx; omega) ?_ (by omega)
 have := zok values 1000000 h2
 have : values.length * (1000000 + 1) <= 1000000 * (1000000 + 1) := Nat.mul_le_mul_right _ h1
 omega
theorem zon {values : List (List UInt8)} (h1 : values.length <= 1000000) (h2 : ∀ x ∈ values, x.length <= 1000000) : (zkf values).length <= 1000001000000 := by
 have := zok values 1000000 h2
 have : values.length * (1000000 + 1) <= 1000000 * (1000000 + 1) := Nat.mul_le_mul_right _ h1
 omega
theorem zoo {l : List (List UInt8)} (hn : l.length <= 1000000) (hs : ∀ x ∈ l, x.length <= 1000000) : q8a.f l = some (l.any fun s => !zmc s) := by
 have hL : q8s.L2.f l (l.length:Int) 0 = some (scan (znr fun s => !zmc s) (.inl ()) 0 l) := by
  unfold q8s.L2.f
  refine zjk l (znr fun s => !zmc s) (.inl ()) (fun k c hk hc => ?_) ?_ (by omega)
  ·have hw := wS (k := k) (by omega)
   have hcl := hs c (by rw [← hc]; exact List.getElem_mem hk)
   have f1 : q10.f c = some (!zmc c) := by
    unfold q10.f q10.t
    rw [zmo (by omega)]; rfl
   unfold q8s.L2.t znr
   simp only [Nat.zero_add, zj6 hk hc, f1, Tr.val, zjn, decide_eq_true hk, cond_true, hw]
   rw [if_pos (by omega), if_pos (by simpa using hk)]
   by_cases h : (!zmc c) = true
   ·simp only [h]; rfl
   ·have h' : (!zmc c) = false := by simpa using h
    simp only [h']; rfl
  ·simp [q8s.L2.t, Tr.val]
 have hI : q8s.f l = some (idxV (scan (znr fun s => !zmc s) (.inl ()) 0 l)) := by
  unfold q8s.f q8s.t
  rw [hL]
  exact znu _ rfl
 unfold q8a.f q8a.t
 rw [zld, hI, Tr.val_chk (by omega), Tr.val_call rfl, znt]
 rfl
def zop : List UInt8 := [72, 111, 115, 116]
def zoq (p minor:Int) (h : List (List UInt8)) : Int :=
 if (if h.length = 0 then decide (minor ≠ 1) || hasD p 15 else if h.length = 1 then true else hasD p 16) = false then 400
 else if (h.any fun s => !zmc s) = true then 400 else 0
def zor (l : List (List UInt8 × List UInt8)) (p minor:Int) : Int := zoq p minor (zkg l zop)
theorem zos {l : List (List UInt8 × List UInt8)} {p minor : Int} (h : FitF l) : q0x.f l p minor = some (zor l p minor) := by
 obtain ⟨q1, q2⟩ := zoj (name := zop) h
 unfold q0x.f q0x.t zor
 rw [zld, Tr.val_chk (by omega), show ([(72:UInt8), (111:UInt8), (115:UInt8), (116:UInt8)]) = zop from rfl, zoi h (by decide), Tr.val_call rfl]
 generalize zkg l zop = hs at q1 q2 ⊢
 unfold zoq
 have f1 := zoo (by omega) q2
 simp only [zld, f1, zn1]
 have hend : ∀ (b:Bool), (Tr.chk ((0:Nat) + hs.length <= hs.length) (Tr.call (some b) fun y => Tr.br y (Tr.ret (400:Int)) (Tr.ret (0:Int)))).val = some (if b = true then 400 else 0) := by
  intro b
  rw [Tr.val_chk (by omega), Tr.val_call rfl]
  cases b <;> rfl
 by_cases h0 : hs.length = 0
 ·have e0 : ((hs.length:Int) == 0) = true := by simp [h0]
  rw [e0, zmx, if_pos h0]
  by_cases hm : minor = 1
  ·subst hm
   rw [show ((1:Int) != 1) = false from rfl, zmy, Tr.val_call rfl]
   cases hasD p 15 with
   | false => rfl
   | true =>
    rw [show (!true) = false from rfl, zmy, hend]
    simp
  ·have : (minor != 1) = true := by simpa using hm
   rw [this, zmx, hend]
   simp [hm]
 ·have e0 : ((hs.length:Int) == 0) = false := by rw [beq_eq_false_iff_ne]; omega
  rw [e0, zmy, if_neg h0]
  by_cases h1 : hs.length = 1
  ·have e1 : ((hs.length:Int) == 1) = true := by simp [h1]
   rw [decide_eq_false (by omega), zmy, e1, show (!true) = false from rfl, zmy, hend, if_pos h1]
   simp
  ·rw [decide_eq_true (show (hs.length:Int) > 1 by omega), zmx, if_neg h1, Tr.val_call rfl]
   cases hasD p 16 with
   | false => rfl
   | true =>
    rw [show (!true) = false from rfl, zmy, hend]
    simp
def zot : List UInt8 := [99, 104, 117, 110, 107, 101, 100]
def zou (c:UInt8) : Bool := ([11, 12, 32, 9] : List UInt8).contains c
def zov (p:Int) (s : List UInt8) : List UInt8 := zkb (if hasD p 17 = true then zkc zou s else s)
def zow (p:Int) (l : List (List UInt8)) : Bool :=
 !(l == []) && (decide (l.length = 1) || hasD p 18) && (l.any (· == zot) && decide (l.findIdx (· == zot) + 1 = l.length))
def zox (values : List (List UInt8)) (p:Int) : Bool := zow p ((zkf values).map (zov p))
theorem zoy {set s : List UInt8} (hn : s.length < 1125899906842624) : qca.L1.f set s = some (s.dropWhile set.contains) := by
 unfold qca.L1.f
 have f1 : ∀ c : UInt8, qc4.f set (c.toNat:Int) = some (set.contains c) := by
  intro c
  unfold qc4.f qc4.t
  rw [zm6]
  cases h : set.contains c <;> simp [Tr.val]
 refine zjy (p := set.contains) ?_ ?_ hn
 ·simp [qca.L1.t, Tr.val]
 ·intro c l _
  have h0 : ((c :: l) == ([] : List UInt8)) = false := rfl
  have hc : (c :: l).getD (Int.toNat 0) 0 = c := rfl
  unfold qca.L1.t
  simp only [Tr.val, h0, Bool.not_false, cond_true, hc, f1]
  rw [if_pos (by simp)]
  by_cases h : set.contains c = true
  ·simp only [h, cond_true, if_true]
   rw [if_pos (by simp; omega)]
   simp
  ·have h' : set.contains c = false := by simpa using h
   simp only [h', cond_false]
   rfl
theorem zoz {set s : List UInt8} (hn : s.length < 1125899906842624) : qca.L3.f set s = some (zjz set.contains s) := by
 unfold qca.L3.f
 have f1 : ∀ c : UInt8, qc4.f set (c.toNat:Int) = some (set.contains c) := by
  intro c
  unfold qc4.f qc4.t
  rw [zm6]
  cases h : set.contains c <;> simp [Tr.val]
 refine zk2 (p := set.contains) ?_ ?_ hn
 ·simp [qca.L3.t, Tr.val]
 ·intro l c hl
  have h1 := zl0 (l := l) (c := c) (by omega)
  have h2 : ((l ++ [c]) == []) = false := by simp
  have h3 : (l ++ [c]).getD l.length 0 = c := by simp
  unfold qca.L3.t
  rw [h1]
  simp only [Tr.val, h2, Int.toNat_natCast, h3, f1, Bool.not_false, cond_true]
  rw [if_pos (by simp; omega)]
  by_cases h : set.contains c = true
  ·simp only [h, cond_true, if_true]
   rw [if_pos (by simp; omega)]
   simp
  ·have h' : set.contains c = false := by simpa using h
   simp only [h', cond_false]
   rfl
theorem zp0 {s set : List UInt8} (hn : s.length < 1125899906842624) : qc1.f s set = some (zkc set.contains s) := by
 unfold qc1.f qc1.t qca.f qca.t zkc
 have := (List.dropWhile_sublist set.contains (l := s)).length_le
 simp only [zoy hn, Tr.val, zoz (s := s.dropWhile set.contains) (by omega)]
theorem zp1 {l : List (List UInt8)} {p : Int} (hn : l.length < 1125899906842624) (hs : ∀ x ∈ l, x.length <= 1000000) : q0r.L3.f l p (l.length:Int) 0 = some (l.map (zov p)) := by
 unfold q0r.L3.f
 refine (zj4 (A := Unit) (a := ()) l (fun k _ => ((l.take k).map (zov p) ++ l.drop k, (k:Int))) (fun _ _ => True) (fun _ _ => .inl ()) (fun _ => l.map (zov p)) ?_ ?_ hn trivial (by simp)).trans ?_
 ·intro k a c _ hk hc
  refine ⟨?_, fun _ _ => trivial⟩
  subst hc
  have hw := wS (k := k) (by omega)
  have hcl := hs l[k] (List.getElem_mem hk)
  have hle : ((l.take k).map (zov p) ++ l.drop k).length = l.length := by simp; omega
  have hat : ((l.take k).map (zov p) ++ l.drop k).getD k [] = l[k] := by
   rw [List.getD_eq_getElem?_getD, List.getElem?_append_right (by simp; omega)]
   simp [Nat.min_eq_left (Nat.le_of_lt hk), hk]
  have hset : ∀ b, ((l.take k).map (zov p) ++ l.drop k).set k b = (l.take k).map (zov p) ++ b :: l.drop (k + 1) := by
   intro b
   rw [List.set_append_right _ _ (by simp; omega)]
   have e : k - ((l.take k).map (zov p)).length = 0 := by simp; omega
   rw [e, List.drop_eq_getElem_cons hk]
   rfl
  have hnext : (l.take (k + 1)).map (zov p) ++ l.drop (k + 1) = (l.take k).map (zov p) ++ zov p l[k] :: l.drop (k + 1) := by
   rw [List.take_add_one, List.getElem?_eq_getElem hk, List.map_append, List.append_assoc]
   rfl
  have ht := zkd zou l[k]
  have f1 : qc1.f l[k] [11, 12, 32, 9] = some (zkc zou l[k]) := zp0 (by omega)
  have f2 := zl9 (s := zkc zou l[k]) (by omega)
  have f3 := zl9 (s := l[k]) (by omega)
  unfold q0r.L3.t
  simp only [Int.toNat_natCast, Nat.zero_add, hat, hle, zjn, decide_eq_true hk, hw, hnext, zn1, f1, f3, Tr.val, cond_true, hset]
  rw [if_pos (by omega), if_pos hk]
  unfold zov
  cases hasD p 17 with
  | true =>
   simp only [cond_true, f2, Tr.val, if_true]
   rw [if_pos (by omega), if_pos hk, if_pos (by simp; omega)]
  | false =>
   simp only [cond_false, Tr.val, Bool.false_eq_true, if_false]
   rw [if_pos (by omega), if_pos hk, if_pos (by simp; omega)]
 ·intro a _
  simp [q0r.L3.t, Tr.val]
 ·have : ∀ (m : List (List UInt8)), zj2 (fun (_ : Unit) (_ : List UInt8) => (Sum.inl () : Unit ⊕ List (List UInt8))) (fun _ => l.map (zov p)) () m = l.map (zov p) := by
   intro m
   induction m with
   | nil => rfl
   | cons c m ih => exact ih
  rw [this]
theorem zp2 {l : List (List UInt8)} (hn : l.length < 1125899906842624) : q94.f l = some (if l.any (· == zot) = true then (l.findIdx (· == zot):Int) else -1) := by
 have hL : q94.L2.f l (l.length:Int) 0 = some (scan (znr (· == zot)) (.inl ()) 0 l) := by
  unfold q94.L2.f
  refine zjk l (znr (· == zot)) (.inl ()) (fun k c hk hc => ?_) ?_ hn
  ·have hw := wS (k := k) (by omega)
   have hsym : (([(99:UInt8), (104:UInt8), (117:UInt8), (110:UInt8), (107:UInt8), (101:UInt8), (100:UInt8)]) == c) = (c == zot) := by
    rw [Bool.eq_iff_iff]
    simp only [beq_iff_eq]
    exact ⟨fun h => h.symm, fun h => h.symm⟩
   unfold q94.L2.t znr
   simp only [Nat.zero_add, zj6 hk hc, Tr.val, zjn, decide_eq_true hk, cond_true, hw, hsym]
   rw [if_pos (by omega), if_pos (by simpa using hk)]
   by_cases h : (c == zot) = true
   ·simp only [h]; rfl
   ·have h' : (c == zot) = false := by simpa using h
    simp only [h']; rfl
  ·simp [q94.L2.t, Tr.val]
 unfold q94.f q94.t
 rw [hL]
 refine (znu _ rfl).trans ?_
 rw [zns, Nat.zero_add]
theorem zp3 {values : List (List UInt8)} {p : Int} (h1 : values.length <= 1000000) (h2 : ∀ x ∈ values, x.length <= 1000000) : q0r.f values p = some (zox values p) := by
 have hl := zon h1 h2
 have hs := zol values 1000000 h2
 unfold q0r.f q0r.t zox
 rw [zld, zom h1 h2, Tr.val_chk (by omega), Tr.val_call rfl]
 simp only [zp1 (l := zkf values) (p := p) (by omega) hs]
 have hlen : ((zkf values).map (zov p)).length = (zkf values).length := List.length_map ..
 rw [vokl, vokl, Tr.val_call rfl]
 generalize (zkf values).map (zov p) = l at hlen ⊢
 have hln : l.length < 1125899906842624 := by omega
 unfold zow
 simp only [zld, zp2 hln, zn1]
 cases l with
 | nil => rfl
 | cons x m =>
  have e0 : ((x :: m) == ([] : List (List UInt8))) = false := rfl
  have hln' : m.length + 1 < 1125899906842624 := by simpa using hln
  have hw : IntKind.i64.wrap (((m.length + 1:Nat):Int) - 1) = ((m.length:Nat):Int) := by
   rw [w64 (by omega) (by omega)]; omega
  simp only [List.length_cons, e0, Bool.not_false, Bool.true_and]
  simp only [hw]
  rw [decide_eq_false (by omega)]
  have hfin : ((if ((x :: m).any fun x => x == zot) = true then (((x :: m).findIdx fun x => x == zot):Int) else -1) == ((m.length:Nat):Int)) = (((x :: m).any fun x => x == zot) && decide (((x :: m).findIdx fun x => x == zot) + 1 = m.length + 1)) := by
   cases h : (x :: m).any fun x => x == zot with
   | true =>
    simp only [if_true, Bool.true_and]
    by_cases h : ((x :: m).findIdx fun x => x == zot) = m.length
    ·simp [h]
    ·have h2 : ¬ ((x :: m).findIdx fun x => x == zot) + 1 = m.length + 1 := by omega
     rw [decide_eq_false h2, beq_eq_false_iff_ne]
     omega
   | false =>
    simp only [Bool.false_eq_true, if_false, Bool.false_and]
    rw [beq_eq_false_iff_ne]; omega
  cases m with
  | nil =>
   show some _ = _
   rw [hfin]
   rfl
  | cons y m =>
   rw [decide_eq_true (show (((y :: m).length:Nat):Int) > 0 by simp)]
   have h1 : ¬ (y :: m).length + 1 = 1 := by simp
   rw [zmy, zmx, Tr.val_call rfl]
   rw [decide_eq_false h1, Bool.false_or]
   cases hasD p 18 with
   | false => rfl
   | true =>
    rw [show (!true) = false from rfl, zmy, Tr.val_chk (by omega), Tr.val_call rfl, hfin]
    rfl
theorem zp4 {l : List (List UInt8)} {s : List UInt8} (hn : l.length < 1125899906842624) : q8d.f l s = some (l.any fun x => !(x == s)) := by
 have hL : q8v.L2.f l s (l.length:Int) 0 = some (scan (znr fun x => !(x == s)) (.inl ()) 0 l) := by
  unfold q8v.L2.f
  refine zjk l (znr fun x => !(x == s)) (.inl ()) (fun k c hk hc => ?_) ?_ hn
  ·have hw := wS (k := k) (by omega)
   unfold q8v.L2.t znr
   simp only [Nat.zero_add, zj6 hk hc, Tr.val, zjn, decide_eq_true hk, cond_true, hw]
   rw [if_pos (by omega), if_pos (by simpa using hk)]
   by_cases h : (!(c == s)) = true
   ·simp only [h]; rfl
   ·have h' : (!(c == s)) = false := by simpa using h
    simp only [h']; rfl
  ·simp [q8v.L2.t, Tr.val]
 have hI : q8v.f l s = some (idxV (scan (znr fun x => !(x == s)) (.inl ()) 0 l)) := by
  unfold q8v.f q8v.t
  rw [hL]
  exact znu _ rfl
 unfold q8d.f q8d.t
 rw [zld, hI, Tr.val_chk (by omega), Tr.val_call rfl, znt]
 rfl
theorem zp5 {s : List UInt8} : qap.f s = some (if zmd 43 s = true then s.drop 1 else s) := by
 have h0 : q1l.f s = some (zmd 43 s) := by
  unfold q1l.f q1l.t zmd
  cases s with
  | nil => simp [Tr.val]
  | cons x l =>
   have h : decide ((((x :: l).length:Nat):Int) ≥ 1) = true := by simp; omega
   simp only [Tr.val, h, cond_true]
   rw [if_pos (by simp; omega)]
   simp
 have h1 : q26.f s = some (if zmd 43 s = true then s.drop 1 else s) := by
  unfold q26.f q26.t
  rw [h0, Tr.val_call rfl]
  cases h : zmd 43 s with
  | true =>
   have hl : 1 <= s.length := by
    cases s with
    | nil => cases h
    | cons x l => simp
   rw [zmx, Tr.val_chk (by omega), if_pos rfl]
   simp [Tr.val]
  | false => rfl
 unfold qap.f qap.t
 rw [h1]; rfl
def zp6 (p:Int) (l : List (List UInt8)) : Option (List UInt8) :=
 if l.length = 1 ∨ ((l.any fun x => !(x == l.getD 0 [])) = false ∧ hasD p 24 = true) ∨ hasD p 25 = true then some (l.getD 0 [])
 else if hasD p 26 = true then some (l.getD (l.length - 1) []) else none
def zp7 (p:Int) (s : List UInt8) : List UInt8 := if hasD p 23 = true ∧ zmd 43 s = true then s.drop 1 else s
def zp8 (p most:Int) : Option (List UInt8) -> Int × Int
 | some s => zne (numS 10 most (zp7 p s))
 | none => (0, 400)
def zp9 (p most:Int) (l : List (List UInt8)) : Int × Int := if l.length = 0 then (0, 0) else zp8 p most (zp6 p l)
def zpa (values : List (List UInt8)) (p most:Int) : Int × Int := zp9 p most (if hasD p 24 = true then zkf values else values)
def lenT (p most:Int) (l : List (List UInt8)) : Tr (Int × Int) :=
 .br ((↑l.length:Int) == (0:Int)) (.ret ((0:Int), (0:Int)))
  (.chk ((0:Int) <= (0:Int) ∧ (0:Int) < (↑l.length:Int))<|.chk ((0:Nat) < l.length)<|.chk ((0:Int) <= IntKind.i64.wrap ((↑l.length:Int) - (1:Int)) ∧ IntKind.i64.wrap ((↑l.length:Int) - (1:Int)) < (↑l.length:Int))<|.chk ((0:Nat) + (IntKind.i64.wrap ((↑l.length:Int) - (1:Int))).toNat < l.length)<|.chk ((0:Nat) + l.length <= l.length)<|.call (q8d.f (List.take l.length (List.drop (0:Nat) l)) (l.getD (0:Nat) [])) fun y3 =>
  .br ((↑l.length:Int) == (1:Int)) (endT (l.getD (0:Nat) []))
  (.br (!y3) (.call (q5p.f p (24:Int)) fun y8 =>
   .br y8 (endT (l.getD (0:Nat) []))
   (.call (q5p.f p (25:Int)) fun y13 =>
    .br y13 (endT (l.getD (0:Nat) []))
    (.call (q5p.f p (26:Int)) fun y18 =>
    .br y18 (endT (l.getD ((0:Nat) + (IntKind.i64.wrap ((↑l.length:Int) - (1:Int))).toNat) []))
    (.ret ((0:Int), (400:Int))))))
   (.call (q5p.f p (25:Int)) fun y23 =>
   .br y23 (endT (l.getD (0:Nat) []))
   (.call (q5p.f p (26:Int)) fun y28 =>
    .br y28 (endT (l.getD ((0:Nat) + (IntKind.i64.wrap ((↑l.length:Int) - (1:Int))).toNat) []))
    (.ret ((0:Int), (400:Int)))))))
where
 endT (s : List UInt8) : Tr (Int × Int) := .call (q5p.f p (23:Int)) fun y4 =>
   .br y4 (.call (qap.f s) fun y5 =>
   .call (q2v.f y5 most) fun (a, b) =>
   .br (b == (23:Int)) (.ret ((0:Int), (413:Int)))
   (.br (b == (22:Int)) (.ret ((0:Int), (400:Int)))
    (.ret (a, (0:Int)))))
   (.call (q2v.f s most) fun (a, b) =>
   .br (b == (23:Int)) (.ret ((0:Int), (413:Int)))
   (.br (b == (22:Int)) (.ret ((0:Int), (400:Int)))
    (.ret (a, (0:Int)))))
theorem zpb {p most : Int} {s : List UInt8} (hm : most <= 1099511627776) (hn : s.length < 1125899906842624) : (lenT.endT p most s).val = some (zne (numS 10 most (zp7 p s))) := by
 unfold lenT.endT zp7
 rw [zn1, Tr.val_call rfl]
 cases hasD p 23 with
 | true =>
  rw [zmx, zp5, Tr.val_call rfl]
  cases zmd 43 s with
  | true =>
   rw [if_pos rfl, if_pos ⟨rfl, rfl⟩, zky hm (by simp; omega), Tr.val_call rfl]
   exact zno _
  | false =>
   rw [if_neg (by simp), if_neg (by simp), zky hm hn, Tr.val_call rfl]
   exact zno _
 | false =>
  rw [zmy, if_neg (by simp), zky hm hn, Tr.val_call rfl]
  exact zno _
theorem zpc {p most : Int} {l : List (List UInt8)} (hm : most <= 1099511627776) (hn : l.length < 1125899906842624) (hs : ∀ x ∈ l, x.length <= 1000000) : (lenT p most l).val = some (zp9 p most l) := by
 unfold lenT zp9
 by_cases h0 : l.length = 0
 ·have e0 : ((l.length:Int) == 0) = true := by simp [h0]
  rw [e0, zmx, if_pos h0]; rfl
 ·have e0 : ((l.length:Int) == 0) = false := by rw [beq_eq_false_iff_ne]; omega
  have w1 : IntKind.i64.wrap ((l.length:Int) - 1) = ((l.length - 1:Nat):Int) := by rw [w64 (by omega) (by omega)]; omega
  have en : (0:Nat) + (((l.length - 1:Nat):Int)).toNat = l.length - 1 := by simp
  rw [e0, zmy, if_neg h0]
  simp only [w1, en]
  have hfirst : (l.getD 0 []).length < 1125899906842624 := by
   have : l.getD 0 [] ∈ l := by
    rw [List.getD_eq_getElem?_getD, List.getElem?_eq_getElem (by omega)]
    exact List.getElem_mem _
   have := hs _ this
   omega
  have hlast : (l.getD (l.length - 1) []).length < 1125899906842624 := by
   have : l.getD (l.length - 1) [] ∈ l := by
    rw [List.getD_eq_getElem?_getD, List.getElem?_eq_getElem (by omega)]
    exact List.getElem_mem _
   have := hs _ this
   omega
  rw [Tr.val_chk (by omega), Tr.val_chk (by omega), Tr.val_chk (by omega), Tr.val_chk (by omega), Tr.val_chk (by omega), zld, zp4 hn, Tr.val_call rfl]
  have g1 := zpb (p := p) hm hfirst
  have g2 := zpb (p := p) hm hlast
  unfold zp6
  simp only [zn1]
  generalize (l.any fun x => !(x == l.getD 0 [])) = A
  by_cases h1 : l.length = 1
  ·have e1 : ((l.length:Int) == 1) = true := by simp [h1]
   rw [e1, zmx, g1, if_pos (.inl h1)]; rfl
  ·have e1 : ((l.length:Int) == 1) = false := by rw [beq_eq_false_iff_ne]; omega
   rw [e1, zmy]
   have hnone : ∀ (P : Prop) [Decidable P], ¬ P -> hasD p 25 = false -> (if l.length = 1 ∨ P ∨ hasD p 25 = true then some (l.getD 0 []) else if hasD p 26 = true then some (l.getD (l.length - 1) []) else none) = if hasD p 26 = true then some (l.getD (l.length - 1) []) else none := by
    intro P _ hP h25
    rw [if_neg]
    rintro (h | h | h)
    ·exact h1 h
    ·exact hP h
    ·rw [h25] at h; cases h
   cases A with
   | false =>
    rw [show (!false) = true from rfl, zmx, Tr.val_call rfl]
    cases h24 : hasD p 24 with
    | true => rw [zmx, g1, if_pos (.inr (.inl ⟨rfl, rfl⟩))]; rfl
    | false =>
     rw [zmy, Tr.val_call rfl]
     cases h25 : hasD p 25 with
     | true => rw [zmx, g1, if_pos (.inr (.inr rfl))]; rfl
     | false =>
      rw [zmy, Tr.val_call rfl]
      cases h26 : hasD p 26 with
      | true => rw [zmx, g2, if_neg (by simp [h1])]; rfl
      | false => rw [zmy, if_neg (by simp [h1])]; rfl
   | true =>
    rw [show (!true) = false from rfl, zmy, Tr.val_call rfl]
    cases h25 : hasD p 25 with
    | true => rw [zmx, g1, if_pos (.inr (.inr rfl))]; rfl
    | false =>
     rw [zmy, Tr.val_call rfl]
     cases h26 : hasD p 26 with
     | true => rw [zmx, g2, if_neg (by simp [h1])]; rfl
     | false => rw [zmy, if_neg (by simp [h1])]; rfl
theorem zpd {values : List (List UInt8)} {p most : Int} (hm : most <= 1099511627776) (h1 : values.length <= 1000000) (h2 : ∀ x ∈ values, x.length <= 1000000) : q13.f values p most = some (zpa values p most) := by
 have hl := zon h1 h2
 show (Tr.call (q5p.f p 24) fun y1 => Tr.br y1 (Tr.chk ((0:Nat) + values.length <= values.length) (Tr.call (qbp.f (List.take values.length (List.drop (0:Nat) values))) fun y2 => lenT p most y2)) (lenT p most values)).val = _
 unfold zpa
 rw [zn1, Tr.val_call rfl]
 cases hasD p 24 with
 | true =>
  rw [zmx, Tr.val_chk (by omega), zld, zom h1 h2, Tr.val_call rfl, if_pos rfl]
  exact zpc hm (by omega) (zol values 1000000 h2)
 | false =>
  rw [zmy, if_neg (by simp)]
  exact zpc hm (by omega) h2
end Pl
end Go.Vx
end
section
set_option maxRecDepth 100000
namespace Go.Vx
namespace Pl
open Go Go.Proofs
def zpe : List UInt8 := [84, 114, 97, 110, 115, 102, 101, 114, 45, 69, 110, 99, 111, 100, 105, 110, 103]
def zpf : List UInt8 := [67, 111, 110, 116, 101, 110, 116, 45, 76, 101, 110, 103, 116, 104]
abbrev zpg := Int × Int × Int
def zph (q : Int × Int) : zpg := if q.2 ≠ 0 then (0, 0, q.2) else (1, q.1, 0)
def zpi (m0 is cl0 t20 t21 t19 t22 ch:Bool) (q : Int × Int) : zpg :=
 bif m0 && !t20 then (0, 0, 400)
 else bif is && (cl0 || t21) && ch then (2, 0, 0)
 else bif (is && (cl0 || t21)) || (!is && !t19) then (0, 0, 501)
 else bif is && !t22 then (0, 0, 400) else zph q
def zpj (l : List (List UInt8 × List UInt8)) (p body:Int) (ch:Bool) (minor:Int) : zpg :=
 if zor l p minor ≠ 0 then (0, 0, zor l p minor)
 else if 0 < (zkg l zpe).length then zpi (decide (minor = 0)) (zox (zkg l zpe) p) (decide ((zkg l zpf).length = 0)) (hasD p 20) (hasD p 21) (hasD p 19) (hasD p 22) ch (zpa (zkg l zpf) p body)
 else zph (zpa (zkg l zpf) p body)
theorem zpk (q : Int × Int) : (Tr.br (q.2 != (0:Int)) (Tr.ret ((0:Int), (0:Int), q.2)) (Tr.ret ((1:Int), q.1, (0:Int)))).val = some (zph q) := by
 unfold zph
 by_cases h : q.2 = 0
 ·rw [h]; rfl
 ·have : (q.2 != 0) = true := by simpa using h
  rw [this, if_pos h]; rfl
theorem zpl {l : List (List UInt8 × List UInt8)} {p body minor : Int} {ch : Bool} (h : FitF l) (hm : body <= 1099511627776) : q0u.f l p body ch minor = some (zpj l p body ch minor) := by
 obtain ⟨q1, q2⟩ := zoj (name := zpe) h
 obtain ⟨q3, q4⟩ := zoj (name := zpf) h
 have hlen := zpd (p := p) hm q3 q4
 have hcod := zp3 (p := p) q1 q2
 have htl : ∀ {m : List (List UInt8)}, (0:Nat) + m.length <= m.length := by omega
 unfold q0u.f q0u.t zpj
 rw [zld, Tr.val_chk (by omega), zos h, Tr.val_call rfl]
 by_cases hh : zor l p minor = 0
 ·have e : (zor l p minor != 0) = false := by simp [hh]
  rw [e, zmy, if_neg (by simp [hh]), Tr.val_chk (by omega)]
  rw [show ([(84:UInt8), (114:UInt8), (97:UInt8), (110:UInt8), (115:UInt8), (102:UInt8), (101:UInt8), (114:UInt8), (45:UInt8), (69:UInt8), (110:UInt8), (99:UInt8), (111:UInt8), (100:UInt8), (105:UInt8), (110:UInt8), (103:UInt8)]) = zpe from rfl, zoi h (by decide), Tr.val_call rfl, Tr.val_chk (by omega)]
  rw [show ([(67:UInt8), (111:UInt8), (110:UInt8), (116:UInt8), (101:UInt8), (110:UInt8), (116:UInt8), (45:UInt8), (76:UInt8), (101:UInt8), (110:UInt8), (103:UInt8), (116:UInt8), (104:UInt8)]) = zpf from rfl, zoi h (by decide), Tr.val_call rfl]
  generalize zkg l zpe = te at q1 q2 hcod ⊢
  generalize zkg l zpf = cl at q3 q4 hlen ⊢
  have hE : (Tr.chk ((0:Nat) + cl.length <= cl.length) (Tr.call (q13.f (List.take cl.length (List.drop (0:Nat) cl)) p body) fun q => Tr.br (q.2 != (0:Int)) (Tr.ret ((0:Int), (0:Int), q.2)) (Tr.ret ((1:Int), q.1, (0:Int))))).val = some (zph (zpa cl p body)) := by
   rw [zld, Tr.val_chk (by omega), hlen, Tr.val_call rfl]
   exact zpk _
  by_cases ht : 0 < te.length
  ·rw [decide_eq_true (show (te.length:Int) > 0 by omega), zmx, if_pos ht, zld, Tr.val_chk (by omega), hcod, Tr.val_call rfl]
   have em : (minor == 0) = decide (minor = 0) := by by_cases h : minor = 0 <;> simp [h]
   have ec : ((cl.length:Int) == 0) = decide (cl.length = 0) := by
    by_cases h : cl.length = 0
    ·simp [h]
    ·rw [decide_eq_false h, beq_eq_false_iff_ne]; omega
   simp only [em, ec, zn1]
   generalize decide (minor = 0) = m0
   generalize decide (cl.length = 0) = cl0
   generalize zox te p = is
   generalize hasD p 20 = t20
   generalize hasD p 21 = t21
   generalize hasD p 19 = t19
   generalize hasD p 22 = t22
   cases is <;> cases m0 <;> cases t20 <;> cases cl0 <;> cases t21 <;> cases ch <;> cases t19 <;> cases t22 <;> first | rfl | exact hE
  ·rw [decide_eq_false (show ¬ (te.length:Int) > 0 by omega), zmy, if_neg ht]
   exact hE
 ·have e : (zor l p minor != 0) = true := by simpa using hh
  rw [e, zmx, if_pos hh]; rfl
theorem zpm {l : List (List UInt8)} {what : List UInt8} (hn : l.length < 1125899906842624) (hs : ∀ x ∈ l, x.length <= 1000000) (hw : what.length <= 1000000) : q8g.f l what = some (l.any fun x => same x what) := by
 have hL : q8y.L2.f l what (l.length:Int) 0 = some (scan (znr fun x => same x what) (.inl ()) 0 l) := by
  unfold q8y.L2.f
  refine zjk l (znr fun x => same x what) (.inl ()) (fun k c hk hc => ?_) ?_ hn
  ·have hw' := wS (k := k) (by omega)
   have hcl := hs c (by rw [← hc]; exact List.getElem_mem hk)
   have f1 : q6d.f what c = some (same c what) := by
    unfold q6d.f q6d.t
    rw [zla (by omega) (by omega)]; rfl
   unfold q8y.L2.t znr
   simp only [Nat.zero_add, zj6 hk hc, f1, Tr.val, zjn, decide_eq_true hk, cond_true, hw']
   rw [if_pos (by omega), if_pos (by simpa using hk)]
   by_cases h : same c what = true
   ·simp only [h]; rfl
   ·have h' : same c what = false := by simpa using h
    simp only [h']; rfl
  ·simp [q8y.L2.t, Tr.val]
 have hI : q8y.f l what = some (idxV (scan (znr fun x => same x what) (.inl ()) 0 l)) := by
  unfold q8y.f q8y.t
  rw [hL]
  exact znu _ rfl
 unfold q8g.f q8g.t
 rw [zld, hI, Tr.val_chk (by omega), Tr.val_call rfl, znt]
 rfl
def zpn (l : List (List UInt8 × List UInt8)) (field what : List UInt8) : Bool := (zkf (zkg l field)).any fun x => same x what
theorem zpo {l : List (List UInt8 × List UInt8)} {field what : List UInt8} (h : FitF l) (h1 : field.length <= 1000000) (h2 : what.length <= 1000000) : q6a.f l field what = some (zpn l field what) := by
 obtain ⟨q1, q2⟩ := zoj (name := field) h
 have hl := zon q1 q2
 unfold q6a.f q6a.t zpn
 rw [zld, Tr.val_chk (by omega), zoi h h1, Tr.val_call rfl, Tr.val_chk (by omega), zld, zom q1 q2, Tr.val_call rfl, Tr.val_chk (by omega), zld, zpm (by omega) (zol _ 1000000 q2) h2, Tr.val_call rfl]
 rfl
def zpp : List UInt8 := [69, 120, 112, 101, 99, 116]
def zpq : List UInt8 := [49, 48, 48, 45, 99, 111, 110, 116, 105, 110, 117, 101]
def zpr (l : List (List UInt8 × List UInt8)) (minor:Int) : Bool := decide (minor = 1) && zpn l zpp zpq
theorem zps {l tr : List (List UInt8 × List UInt8)} {b : List UInt8} {minor : Int} (h : FitF l) : q61.f l b tr minor = some (zpr l minor) := by
 unfold q61.f q61.t zpr
 by_cases hm : minor = 1
 ·have e : (minor == 1) = true := by simpa using hm
  rw [e, zmx, Tr.val_chk (by omega), Tr.val_chk (by omega), Tr.val_chk (by omega), zld]
  rw [show ([(69:UInt8), (120:UInt8), (112:UInt8), (101:UInt8), (99:UInt8), (116:UInt8)]) = zpp from rfl, show ([(49:UInt8), (48:UInt8), (48:UInt8), (45:UInt8), (99:UInt8), (111:UInt8), (110:UInt8), (116:UInt8), (105:UInt8), (110:UInt8), (117:UInt8), (101:UInt8)]) = zpq from rfl, zpo h (by decide) (by decide), Tr.val_call rfl]
  simp [hm, Tr.val]
 ·have e : (minor == 1) = false := by simpa using hm
  rw [e]
  simp [hm, Tr.val]
end Pl
end Go.Vx
end
section
set_option maxRecDepth 100000
namespace Go.Vx
namespace Pl
open Go Go.Proofs
abbrev Bs := List UInt8
abbrev Fs := List (List UInt8 × List UInt8)
abbrev Rec := List UInt8 × List UInt8 × Int × List (List UInt8 × List UInt8) × Bool × List UInt8 × List (List UInt8 × List UInt8)
structure Cfg where
 p : Int
 line : Int
 fields : Int
 head : Int
 body : Int
 ext : Int
 trailers : Int
 wait : Int
 idle : Int
 chunked : Bool
 old : Bool
structure PS where
 method : Bs
 target : Bs
 minor : Int
 chunked : Bool
 stage : Int
 lines : Int
 head : Int
 need : Int
 begun : Bool
 waits : Bool
 err : Int
 most : Int
 pend : Bool
 over : Bool
 bad : Bool
 b : Bs
 fields : Fs
 body : Bs
 trailers : Fs
 out : List Rec
abbrev PT := Bs × Bs × Int × Bool × Int × Int × Int × Int × Bool × Bool × Int × Int × Int × Bool × Bool × Bool × Bs × Fs × Bs × Fs × List Rec
def PS.tup (C : Cfg) (S : PS) : PT := (S.method, S.target, S.minor, S.chunked, S.stage, S.lines, S.head, S.need, S.begun, S.waits, S.err, C.p, S.most, S.pend, S.over, S.bad, S.b, S.fields, S.body, S.trailers, S.out)
def zpt (m:Int) : Int := mn2 (mx2 m 0) 4096
def PS.rec_ (S : PS) : Rec := (S.method, S.target, S.minor, S.fields, S.chunked, S.body, S.trailers)
def PS.whole (C : Cfg) (S : PS) : PS :=
 {method := [], target := [], minor := 0, chunked := false, stage := 0, lines := 0, head := 0, need := 0, begun := false, waits := false, err := S.err, most := zpt C.line, pend := false, over := false, bad := false, b := [], fields := [], body := [], trailers := [], out := S.out ++ [S.rec_] }
def PS.to (C : Cfg) (S : PS) (st:Int) : PS := { S with stage := st, most := zpt (if st = 5 then 0 else C.line), pend := false, over := false, bad := false, b := [] }
def PS.fail (S : PS) (e:Int) : PS := { S with err := e }
def PS.bodyB (C : Cfg) (S : PS) (c:UInt8) : PS :=
 let T := { S with waits := false, body := S.body ++ [c], need := S.need - 1 }
 if T.need > 0 then T else if S.stage = 2 then T.whole C else T.to C 5
def PS.counted (C : Cfg) (S : PS) : PS × Bool :=
 if S.stage = 3 ∨ S.stage = 5 then (S, true)
 else if S.head + 1 > C.head then ({ S with head := S.head + 1, err := 431 }, false)
 else ({ S with head := S.head + 1 }, S.err == 0)
def PS.lineB (C : Cfg) (S : PS) (c:UInt8) : PS × Int :=
 if S.bad = true then (S, 3) else
 if S.pend = true then
  (if c = 10 then ({ S with over := true, pend := false, b := if S.over = true then [] else S.b }, 1)
   else if hasD C.p 2 = true then ({ S with over := true, pend := false, b := if S.over = true then [] else S.b }, 2)
   else ({ S with bad := true, pend := false, over := false, b := if S.over = true then [] else S.b }, 3))
 else if c = 13 then ({ S with pend := true, over := false, b := if S.over = true then [] else S.b }, 0)
 else if c = 10 then
  (if hasD C.p 1 = true then ({ S with over := true, pend := false, b := if S.over = true then [] else S.b }, 1)
   else ({ S with bad := true, pend := false, over := false, b := if S.over = true then [] else S.b }, 3))
 else if ((if S.over = true then ([] : Bs) else S.b).length:Int) ≥ S.most then ({ S with bad := true, pend := false, over := false, b := if S.over = true then [] else S.b }, 4)
 else ({ S with over := false, b := (if S.over = true then [] else S.b) ++ [c] }, 0)
def PS.lineS (S : PS) : Bs := if S.over = true ∧ S.bad = false then S.b else []
def PS.request (C : Cfg) (S : PS) (s : Bs) : PS :=
 if s = [] ∧ hasD C.p 0 = true then { S with begun := false }
 else { S with method := (zog s C.p C.old).1, target := (zog s C.p C.old).2.1, minor := (zog s C.p C.old).2.2.1, err := (zog s C.p C.old).2.2.2, stage := if (zog s C.p C.old).2.2.2 = 0 then 1 else S.stage }
def zpu (p:Int) (l : Fs) (s : Bs) (e:Int) : Fs × Int :=
 if l ≠ [] ∧ zna s p = true then (l.set (l.length - 1) ((l.getD (l.length - 1) ([], [])).1, (l.getD (l.length - 1) ([], [])).2 ++ 32 :: trim s), e)
 else if (zn4 s p).2.2.1 = true then (l ++ [((zn4 s p).1, (zn4 s p).2.1)], (zn4 s p).2.2.2)
 else (l, (zn4 s p).2.2.2)
def PS.fieldF (C : Cfg) (S : PS) (s : Bs) : PS :=
 if S.lines + 1 > C.fields then { S with lines := S.lines + 1, err := 431 }
 else { S with lines := S.lines + 1, fields := (zpu C.p S.fields s S.err).1, err := (zpu C.p S.fields s S.err).2 }
def PS.fieldT (C : Cfg) (S : PS) (s : Bs) : PS :=
 if S.lines + 1 > C.trailers then { S with lines := S.lines + 1, err := 431 }
 else { S with lines := S.lines + 1, trailers := (zpu C.p S.trailers s S.err).1, err := (zpu C.p S.trailers s S.err).2 }
def PS.framed (C : Cfg) (S : PS) : PS :=
 let q := zpj S.fields C.p C.body C.chunked S.minor
 if q.2.2 ≠ 0 then S.fail q.2.2
 else if q.1 = 2 then { (S.to C 3) with chunked := true, waits := zpr S.fields S.minor }
 else if q.2.1 = 0 then S.whole C
 else { S with stage := 2, need := q.2.1, waits := zpr S.fields S.minor }
def PS.chunk (C : Cfg) (S : PS) (s : Bs) : PS :=
 let q := znf s C.p C.body C.ext
 if q.2 ≠ 0 then S.fail q.2
 else if q.1 > C.body - (S.body.length:Int) then S.fail 413
 else if q.1 = 0 then { (S.to C 6) with lines := 0 }
 else { S with stage := 4, need := q.1 }
def PS.ended (C : Cfg) (S : PS) : PS :=
 if S.stage = 0 then S.request C S.lineS
 else if S.stage = 1 then (if S.lineS = [] then S.framed C else S.fieldF C S.lineS)
 else if S.stage = 3 then S.chunk C S.lineS
 else if S.stage = 5 then S.to C 3
 else if S.stage = 6 then (if S.lineS = [] then S.whole C else S.fieldT C S.lineS)
 else S
theorem zpv (m:Int) : q2d.f m = some (zpt m, false, false, false, []) := rfl
theorem zpw (b : Bs) : q2p.f b = some (false, true) := rfl
theorem zpx (b : Bs) : q2s.f b = some (false, true) := rfl
theorem zpy (over bad:Bool) (b : Bs) : q2m.f over bad b = some (if over = true ∧ bad = false then b else []) := by
 unfold q2m.f q2m.t
 cases over <;> cases bad <;> simp [Tr.val]
theorem zpz {C : Cfg} {S : PS} (c:UInt8) (hm : S.most <= 4096) : q2g.f C.p S.most S.pend S.over S.bad S.b (c.toNat:Int) = some ((S.lineB C c).1.pend, (S.lineB C c).1.over, (S.lineB C c).1.bad, (S.lineB C c).1.b, (S.lineB C c).2) := by
 obtain ⟨method, target, minor, chunked, stage, lines, head, need, begun, waits, err, most, pend, over, bad, b, fields, body, trailers, out⟩ := S
 simp only at hm
 unfold q2g.f q2g.t PS.lineB
 have h0 := zix c
 have h1 := ziw c
 have e10 : ((c.toNat:Int) == 10) = (c == 10) := zj0 c 10 (by decide) (by decide)
 have e13 : ((c.toNat:Int) == 13) = (c == 13) := zj0 c 13 (by decide) (by decide)
 have eb := ziy c
 simp only [zn1, zpw, zpx, e10, e13]
 by_cases q1 : c = 10
 ·subst q1
  cases bad <;> cases over <;> cases pend <;> cases hasD C.p 2 <;> cases hasD C.p 1 <;> simp [Tr.val]
 ·have f1 : (c == 10) = false := by simpa using q1
  by_cases q2 : c = 13
  ·subst q2
   cases bad <;> cases over <;> cases pend <;> cases hasD C.p 2 <;> cases hasD C.p 1 <;> simp [Tr.val]
  ·have f2 : (c == 13) = false := by simpa using q2
   by_cases e3 : most <= (b.length:Int)
   ·by_cases e4 : most <= 0
    ·cases bad <;> cases over <;> cases pend <;> cases hasD C.p 2 <;> cases hasD C.p 1 <;> simp [Tr.val, f1, f2, q1, q2, h0, h1, e3, e4]
    ·cases bad <;> cases over <;> cases pend <;> cases hasD C.p 2 <;> cases hasD C.p 1 <;> simp [Tr.val, f1, f2, q1, q2, h0, h1, e3, e4]
   ·have e4 : ¬ most <= 0 := by omega
    have e5 : b.length + 1 <= 140737488355328 := by omega
    cases bad <;> cases over <;> cases pend <;> cases hasD C.p 2 <;> cases hasD C.p 1 <;> simp [Tr.val, f1, f2, q1, q2, h0, h1, e3, e4, e5]
theorem zq0 {C : Cfg} {S : PS} (ho : S.out.length <= 1000000000) : q5m.f S.method S.target S.minor S.chunked C.line S.b S.fields S.body S.trailers S.out = some ([], [], 0, false, 0, 0, 0, 0, false, false, zpt C.line, false, false, false, [], [], [], [], S.out ++ [S.rec_]) := by
 unfold q5m.f q5m.t
 rw [Tr.val_chk (by omega), Tr.val_chk (by omega), Tr.val_chk (by omega), Tr.val_chk (by simp), Tr.val_chk (by omega), Tr.val_chk (by omega), zpv, Tr.val_call rfl, vokl, vokl, Tr.val_chk (by simp)]
 simp only [zld, Tr.val]
 rfl
theorem to_f {C : Cfg} {S : PS} (st:Int) : q5j.f C.line S.b S.fields S.body S.trailers S.out st = some (zpt (if st = 5 then 0 else C.line), false, false, false, []) := by
 unfold q5j.f q5j.t
 by_cases h : st = 5
 ·have e : (st == 5) = true := by simpa using h
  rw [e, zmx, if_pos h]; rfl
 ·have e : (st == 5) = false := by simpa using h
  rw [e, zmy, if_neg h]; rfl
end Pl
end Go.Vx
end
section
set_option maxRecDepth 100000
namespace Go.Vx
namespace Pl
open Go Go.Proofs
abbrev BT := Bs × Bs × Int × Bool × Int × Int × Int × Int × Bool × Bool × Int × Int × Bool × Bool × Bool × Bs × Fs × Bs × Fs × List Rec
def PS.tupB (C : Cfg) (S : PS) : BT := (S.method, S.target, S.minor, S.chunked, S.stage, S.lines, S.head, S.need, S.begun, S.waits, C.p, S.most, S.pend, S.over, S.bad, S.b, S.fields, S.body, S.trailers, S.out)
theorem zq1 {C : Cfg} {S : PS} (c:UInt8) (hb : S.body.length <= 1000000000) (ho : S.out.length <= 1000000000) (hn0 : 0 <= S.need) (hn : S.need <= 1099511627776) :
  q4g.f S.method S.target S.minor S.chunked S.stage S.lines S.head S.need S.begun C.p C.line C.p S.most S.pend S.over S.bad S.b S.fields S.body S.trailers S.out (c.toNat:Int) = some ((S.bodyB C c).tupB C) := by
 have h0 := zix c
 have h1 := ziw c
 have eb := ziy c
 have hw : IntKind.i64.wrap (S.need - 1) = S.need - 1 := w64 (by omega) (by omega)
 unfold q4g.f q4g.t
 rw [Tr.val_chk (by omega), Tr.val_chk (by omega), Tr.val_chk (by omega), hw, eb, zld]
 unfold PS.bodyB
 simp only
 by_cases h : S.need - 1 > 0
 ·rw [decide_eq_true h, zmx, if_pos h, vokl, vokl, Tr.val_chk (by simp), vokl, vokl]
  rfl
 ·rw [decide_eq_false h, zmy, if_neg h]
  by_cases h2 : S.stage = 2
  ·have e : (S.stage == 2) = true := by simpa using h2
   rw [e, zmx, if_pos h2, vokl, vokl, Tr.val_chk (by simp), vokl, vokl]
   have hw := zq0 (C := C) (S := { S with waits := false, body := S.body ++ [c], need := S.need - 1 }) ho
   simp only at hw
   rw [hw, Tr.val_call rfl]
   rfl
  ·have e : (S.stage == 2) = false := by simpa using h2
   rw [e, zmy, if_neg h2, vokl, vokl, Tr.val_chk (by simp), vokl, vokl]
   have ht := to_f (C := C) (S := { S with waits := false, body := S.body ++ [c], need := S.need - 1 }) 5
   simp only at ht
   rw [ht, Tr.val_call rfl]
   rfl
theorem zq2 {C : Cfg} {S : PS} (hh0 : 0 <= S.head) (hh : S.head <= 1099511627776) :
  q4m.f S.stage S.head C.head S.err S.b S.fields S.body S.trailers S.out = some ((S.counted C).1.head, (S.counted C).1.err, (S.counted C).2) := by
 have hw : IntKind.i64.wrap (S.head + 1) = S.head + 1 := w64 (by omega) (by omega)
 unfold q4m.f q4m.t PS.counted
 rw [hw]
 by_cases h3 : S.stage = 3
 ·have e : (S.stage != 3) = false := by simp [h3]
  rw [e, zmy, if_pos (.inl h3)]; rfl
 ·have e : (S.stage != 3) = true := by simpa using h3
  rw [e, zmx]
  by_cases h5 : S.stage = 5
  ·have e : (S.stage != 5) = false := by simp [h5]
   rw [e, show (!false) = true from rfl, zmx, if_pos (.inr h5)]; rfl
  ·have e : (S.stage != 5) = true := by simpa using h5
   rw [e, show (!true) = false from rfl, zmy, if_neg (not_or.2 ⟨h3, h5⟩)]
   by_cases h : S.head + 1 > C.head
   ·rw [decide_eq_true h, zmx, if_pos h]; rfl
   ·rw [decide_eq_false h, zmy, if_neg h]; rfl
def zq3 (C : Cfg) (s : Bs) : Prop := zo7 C.p s ∧ (zo1 s C.p).2.1.length < 4294967000
theorem zq4 {C : Cfg} {S : PS} {s : Bs} (hn : s.length <= 1000000) (hl : zq3 C s) :
  q57.f S.method S.target S.minor S.stage S.begun C.p C.old S.err S.b S.fields S.body S.trailers S.out s = some ((S.request C s).method, (S.request C s).target, (S.request C s).minor, (S.request C s).stage, (S.request C s).begun, (S.request C s).err) := by
 have hr := zoh (old := C.old) (by omega) hl.1 hl.2
 have hE : (Tr.call (q77.f s C.p C.old) fun (a, b, m, e) => Tr.br (e == (0:Int)) (Tr.okl S.fields.length<|Tr.okl S.body.length<|Tr.okl S.trailers.length<|Tr.okl S.out.length<|Tr.okl S.b.length<|Tr.ret (a, b, m, (1:Int), S.begun, e)) (Tr.okl S.fields.length<|Tr.okl S.body.length<|Tr.okl S.trailers.length<|Tr.okl S.out.length<|Tr.okl S.b.length<|Tr.ret (a, b, m, S.stage, S.begun, e))).val
   = some ((zog s C.p C.old).1, (zog s C.p C.old).2.1, (zog s C.p C.old).2.2.1, (if (zog s C.p C.old).2.2.2 = 0 then 1 else S.stage), S.begun, (zog s C.p C.old).2.2.2) := by
  rw [hr, Tr.val_call rfl]
  generalize zog s C.p C.old = q
  obtain ⟨a, b, m, e⟩ := q
  simp only
  by_cases h : e = 0
  ·subst h; rfl
  ·have e1 : (e == 0) = false := by simpa using h
   rw [e1, zmy, if_neg h]; rfl
 unfold q57.f q57.t PS.request
 by_cases h0 : s = []
 ·have e0 : (s == []) = true := by simpa using h0
  rw [e0, zmx, zn1, Tr.val_call rfl]
  cases h : hasD C.p 0 with
  | true => rw [zmx, if_pos ⟨h0, rfl⟩]; rfl
  | false => rw [zmy, if_neg (by simp)]; exact hE
 ·have e0 : (s == []) = false := by simpa using h0
  rw [e0, zmy, if_neg (fun h => h0 h.1)]
  exact hE
theorem zq5 {C : Cfg} {S : PS} (hf : FitF S.fields) (hb : C.body <= 1099511627776) (ho : S.out.length <= 1000000000) :
  q4v.f S.method S.target S.minor S.chunked S.stage S.lines S.head S.need S.begun S.waits C.p C.line C.body C.chunked S.err C.p S.most S.pend S.over S.bad S.b S.fields S.body S.trailers S.out = some ((S.framed C).tup C) := by
 unfold q4v.f q4v.t PS.framed
 rw [show ∀ (a : Tr PT), (Tr.twice a).val = a.val from fun _ => rfl, Tr.val_chk (by omega), zld, zpl hf hb, Tr.val_call rfl]
 generalize zpj S.fields C.p C.body C.chunked S.minor = q
 obtain ⟨k, n, e⟩ := q
 simp only
 by_cases he : e = 0
 ·have e1 : (e != 0) = false := by simp [he]
  rw [e1, zmy, if_neg (by simp [he])]
  by_cases hk : k = 2
  ·have e2 : (k == 2) = true := by simpa using hk
   rw [e2, zmx, if_pos hk, vokl, vokl, vokl, vokl, vokl, to_f (C := C) (S := S) 3, Tr.val_call rfl, Tr.val_chk (by omega), Tr.val_chk (by omega), Tr.val_chk (by omega)]
   simp only [zld]
   rw [zps hf, Tr.val_call rfl]
   rfl
  ·have e2 : (k == 2) = false := by simpa using hk
   rw [e2, zmy, if_neg hk]
   by_cases hn : n = 0
   ·have e3 : (n == 0) = true := by simpa using hn
    rw [e3, zmx, if_pos hn, vokl, vokl, vokl, vokl, vokl, zq0 (C := C) (S := S) ho, Tr.val_call rfl]
    rfl
   ·have e3 : (n == 0) = false := by simpa using hn
    rw [e3, zmy, if_neg hn, Tr.val_chk (by omega), Tr.val_chk (by omega), Tr.val_chk (by omega)]
    simp only [zld]
    rw [zps hf, Tr.val_call rfl]
    rfl
 ·have e1 : (e != 0) = true := by simpa using he
  rw [e1, zmx, if_pos he]; rfl
theorem zq6 {C : Cfg} {S : PS} {s : Bs} (hn : s.length <= 1000000) (hb : C.body <= 1099511627776) (hb0 : 0 <= C.body) (hl : S.body.length <= 1000000000) :
  q4j.f S.stage S.lines S.need C.p C.line C.body C.ext S.err C.p S.most S.pend S.over S.bad S.b S.fields S.body S.trailers S.out s = some ((S.chunk C s).stage, (S.chunk C s).lines, (S.chunk C s).need, (S.chunk C s).err, C.p, (S.chunk C s).most, (S.chunk C s).pend, (S.chunk C s).over, (S.chunk C s).bad, (S.chunk C s).b) := by
 have hw : IntKind.i64.wrap (C.body - (S.body.length:Int)) = C.body - (S.body.length:Int) := w64 (by omega) (by omega)
 unfold q4j.f q4j.t PS.chunk
 rw [znq hb (by omega), Tr.val_call rfl, hw]
 generalize znf s C.p C.body C.ext = q
 obtain ⟨n, e⟩ := q
 simp only
 by_cases he : e = 0
 ·have e1 : (e != 0) = false := by simp [he]
  rw [e1, zmy, if_neg (by simp [he])]
  by_cases h : n > C.body - (S.body.length:Int)
  ·rw [decide_eq_true h, zmx, if_pos h]; rfl
  ·rw [decide_eq_false h, zmy, if_neg h]
   by_cases hn : n = 0
   ·have e3 : (n == 0) = true := by simpa using hn
    rw [e3, zmx, if_pos hn, vokl, vokl, vokl, vokl, vokl, to_f (C := C) (S := S) 6, Tr.val_call rfl]
    rfl
   ·have e3 : (n == 0) = false := by simpa using hn
    rw [e3, zmy, if_neg hn]; rfl
 ·have e1 : (e != 0) = true := by simpa using he
  rw [e1, zmx, if_pos he]; rfl
end Pl
end Go.Vx
end
section
set_option maxRecDepth 100000
namespace Go.Vx
namespace Pl
open Go Go.Proofs
structure Small (C : Cfg) (S : PS) : Prop where
 cbody : 0 <= C.body ∧ C.body <= 1099511627776
 b : S.b.length <= 4096
 most : S.most <= 4096
 lines : 0 <= S.lines ∧ S.lines <= 1000000
 head : 0 <= S.head ∧ S.head <= 1000000000
 need : 0 <= S.need ∧ S.need <= 1099511627776
 fields : FitF S.fields
 trailers : FitF S.trailers
 body : S.body.length <= 1000000000
 out : S.out.length <= 1000000000
theorem zq7 {S : PS} : S.lineS.length <= S.b.length := by
 unfold PS.lineS
 split
 ·exact Nat.le_refl _
 ·simp
theorem zq8 (C : Cfg) (S : PS) (s : Bs) : (S.request C s).tup C = ((S.request C s).method, (S.request C s).target, (S.request C s).minor, S.chunked, (S.request C s).stage, S.lines, S.head, S.need, (S.request C s).begun, S.waits, (S.request C s).err, C.p, S.most, S.pend, S.over, S.bad, S.b, S.fields, S.body, S.trailers, S.out) := by
 unfold PS.request
 by_cases h : s = [] ∧ hasD C.p 0 = true
 ·rw [if_pos h]; rfl
 ·rw [if_neg h]; rfl
theorem zq9 (C : Cfg) (S : PS) (s : Bs) : (S.chunk C s).tup C = (S.method, S.target, S.minor, S.chunked, (S.chunk C s).stage, (S.chunk C s).lines, S.head, (S.chunk C s).need, S.begun, S.waits, (S.chunk C s).err, C.p, (S.chunk C s).most, (S.chunk C s).pend, (S.chunk C s).over, (S.chunk C s).bad, (S.chunk C s).b, S.fields, S.body, S.trailers, S.out) := by
 unfold PS.chunk
 simp only
 by_cases h1 : (znf s C.p C.body C.ext).2 ≠ 0
 ·rw [if_pos h1]; rfl
 ·rw [if_neg h1]
  by_cases h2 : (znf s C.p C.body C.ext).1 > C.body - (S.body.length:Int)
  ·rw [if_pos h2]; rfl
  ·rw [if_neg h2]
   by_cases h3 : (znf s C.p C.body C.ext).1 = 0
   ·rw [if_pos h3]; rfl
   ·rw [if_neg h3]; rfl
theorem zqa {C : Cfg} {S : PS} (h : Small C S) (hl : S.stage = 0 -> zq3 C S.lineS) :
  q4p.f S.method S.target S.minor S.chunked S.stage S.lines S.head S.need S.begun S.waits C.p C.line C.fields C.body C.ext C.trailers C.chunked C.old S.err C.p S.most S.pend S.over S.bad S.b S.fields S.body S.trailers S.out = some ((S.ended C).tup C) := by
 have hb := h.b
 have hls := zq7 (S := S)
 have hwl : IntKind.i64.wrap (S.lines + 1) = S.lines + 1 := by have := h.lines; exact w64 (by omega) (by omega)
 have hp := zn9 (s := S.lineS) (p := C.p) (by omega)
 unfold q4p.f q4p.t PS.ended
 rw [zpy]
 repeat rw [vokl]
 rw [Tr.val_call rfl, hwl]
 rw [show (if S.over = true ∧ S.bad = false then S.b else []) = S.lineS from rfl]
 by_cases s0 : S.stage = 0
 ·have e : (S.stage == 0) = true := by simpa using s0
  rw [e, zmx, if_pos s0]
  repeat rw [vokl]
  rw [zq4 (C := C) (by omega) (hl s0), Tr.val_call rfl]
  rw [zq8]
  rfl
 ·have e : (S.stage == 0) = false := by simpa using s0
  rw [e, zmy, if_neg s0]
  by_cases s1 : S.stage = 1
  ·have e : (S.stage == 1) = true := by simpa using s1
   have hf := h.fields
   have hf1 := hf.1
   rw [e, zmx, if_pos s1]
   by_cases hs : S.lineS = []
   ·have e : (S.lineS == []) = true := by simpa using hs
    rw [e, zmx, if_pos hs]
    repeat rw [vokl]
    rw [zq5 h.fields h.cbody.2 h.out, Tr.val_call rfl]
    rfl
   ·have e : (S.lineS == []) = false := by simpa using hs
    rw [e, zmy, if_neg hs]
    unfold PS.fieldF
    by_cases hl : S.lines + 1 > C.fields
    ·rw [decide_eq_true hl, zmx, if_pos hl]
     rfl
    ·rw [decide_eq_false hl, zmy, if_neg hl]
     have hlist : ∀ e, zpu C.p S.fields S.lineS e = zpu C.p S.fields S.lineS e := fun _ => rfl
     by_cases h0 : S.fields = []
     ·have hw1 : IntKind.i64.wrap ((S.fields.length:Int) - 1) = -1 := by rw [h0]; rfl
      rw [hw1, show decide ((-1:Int) ≥ 0) = false from rfl, zmy]
      repeat rw [vokl]
      rw [hp, Tr.val_call rfl]
      unfold zpu
      rw [if_neg (by rintro ⟨h, _⟩; exact h h0)]
      generalize zn4 S.lineS C.p = q
      obtain ⟨n, v, is, e⟩ := q
      cases is with
      | true =>
       simp only [zld]
       rw [zmx, Tr.val_chk (by omega), Tr.val_chk (by omega)]
       repeat rw [vokl]
       rw [Tr.val_chk (by simp)]
       rfl
      | false => rfl
     ·have hpos : 0 < S.fields.length := List.length_pos_iff.2 h0
      have hw1 : IntKind.i64.wrap ((S.fields.length:Int) - 1) = ((S.fields.length - 1:Nat):Int) := by rw [w64 (by omega) (by omega)]; omega
      rw [hw1, decide_eq_true (show ((S.fields.length - 1:Nat):Int) ≥ 0 by omega), zmx]
      repeat rw [vokl]
      rw [znb, Tr.val_call rfl]
      simp only [Int.toNat_natCast, Nat.zero_add]
      unfold zpu
      cases hg : zna S.lineS C.p with
      | true =>
       rw [if_pos ⟨h0, rfl⟩, zmx, Tr.val_chk (by omega), Tr.val_chk (by omega)]
       have hmem : S.fields.getD (S.fields.length - 1) ([], []) ∈ S.fields := by
        rw [List.getD_eq_getElem?_getD, List.getElem?_eq_getElem (by omega)]
        exact List.getElem_mem _
       rw [znc (by have := (hf.2 _ hmem).2; omega) (by omega), Tr.val_call rfl, Tr.val_chk (by omega), Tr.val_chk (by omega)]
       repeat rw [vokl]
       rw [Tr.val_chk (by simp)]
       rfl
      | false =>
       rw [if_neg (by simp), zmy]
       repeat rw [vokl]
       rw [hp, Tr.val_call rfl]
       generalize zn4 S.lineS C.p = q
       obtain ⟨n, v, is, e⟩ := q
       cases is with
       | true =>
        simp only [zld]
        rw [zmx, Tr.val_chk (by omega), Tr.val_chk (by omega)]
        repeat rw [vokl]
        rw [Tr.val_chk (by simp)]
        rfl
       | false => rfl
  ·have e : (S.stage == 1) = false := by simpa using s1
   rw [e, zmy, if_neg s1]
   by_cases s3 : S.stage = 3
   ·have e : (S.stage == 3) = true := by simpa using s3
    rw [e, zmx, if_pos s3]
    repeat rw [vokl]
    rw [zq6 (by omega) h.cbody.2 h.cbody.1 h.body, Tr.val_call rfl]
    rw [zq9]
    rfl
   ·have e : (S.stage == 3) = false := by simpa using s3
    rw [e, zmy, if_neg s3]
    by_cases s5 : S.stage = 5
    ·have e : (S.stage == 5) = true := by simpa using s5
     rw [e, zmx, if_pos s5]
     repeat rw [vokl]
     rw [to_f (C := C) (S := S) 3, Tr.val_call rfl]
     rfl
    ·have e : (S.stage == 5) = false := by simpa using s5
     rw [e, zmy, if_neg s5]
     by_cases s6 : S.stage = 6
     ·have e : (S.stage == 6) = true := by simpa using s6
      have hf := h.trailers
      have hf1 := hf.1
      rw [e, zmx, if_pos s6]
      by_cases hs : S.lineS = []
      ·have e : (S.lineS == []) = true := by simpa using hs
       rw [e, zmx, if_pos hs]
       repeat rw [vokl]
       rw [zq0 (C := C) (S := S) h.out, Tr.val_call rfl]
       rfl
      ·have e : (S.lineS == []) = false := by simpa using hs
       rw [e, zmy, if_neg hs]
       unfold PS.fieldT
       by_cases hl : S.lines + 1 > C.trailers
       ·rw [decide_eq_true hl, zmx, if_pos hl]
        rfl
       ·rw [decide_eq_false hl, zmy, if_neg hl]
        have hlist : ∀ e, zpu C.p S.trailers S.lineS e = zpu C.p S.trailers S.lineS e := fun _ => rfl
        by_cases h0 : S.trailers = []
        ·have hw1 : IntKind.i64.wrap ((S.trailers.length:Int) - 1) = -1 := by rw [h0]; rfl
         rw [hw1, show decide ((-1:Int) ≥ 0) = false from rfl, zmy]
         repeat rw [vokl]
         rw [hp, Tr.val_call rfl]
         unfold zpu
         rw [if_neg (by rintro ⟨h, _⟩; exact h h0)]
         generalize zn4 S.lineS C.p = q
         obtain ⟨n, v, is, e⟩ := q
         cases is with
         | true =>
          simp only [zld]
          rw [zmx, Tr.val_chk (by omega), Tr.val_chk (by omega)]
          repeat rw [vokl]
          rw [Tr.val_chk (by simp)]
          rfl
         | false => rfl
        ·have hpos : 0 < S.trailers.length := List.length_pos_iff.2 h0
         have hw1 : IntKind.i64.wrap ((S.trailers.length:Int) - 1) = ((S.trailers.length - 1:Nat):Int) := by rw [w64 (by omega) (by omega)]; omega
         rw [hw1, decide_eq_true (show ((S.trailers.length - 1:Nat):Int) ≥ 0 by omega), zmx]
         repeat rw [vokl]
         rw [znb, Tr.val_call rfl]
         simp only [Int.toNat_natCast, Nat.zero_add]
         unfold zpu
         cases hg : zna S.lineS C.p with
         | true =>
          rw [if_pos ⟨h0, rfl⟩, zmx, Tr.val_chk (by omega), Tr.val_chk (by omega)]
          have hmem : S.trailers.getD (S.trailers.length - 1) ([], []) ∈ S.trailers := by
           rw [List.getD_eq_getElem?_getD, List.getElem?_eq_getElem (by omega)]
           exact List.getElem_mem _
          rw [znc (by have := (hf.2 _ hmem).2; omega) (by omega), Tr.val_call rfl, Tr.val_chk (by omega), Tr.val_chk (by omega)]
          repeat rw [vokl]
          rw [Tr.val_chk (by simp)]
          rfl
         | false =>
          rw [if_neg (by simp), zmy]
          repeat rw [vokl]
          rw [hp, Tr.val_call rfl]
          generalize zn4 S.lineS C.p = q
          obtain ⟨n, v, is, e⟩ := q
          cases is with
          | true =>
           simp only [zld]
           rw [zmx, Tr.val_chk (by omega), Tr.val_chk (by omega)]
           repeat rw [vokl]
           rw [Tr.val_chk (by simp)]
           rfl
          | false => rfl
     ·have e : (S.stage == 6) = false := by simpa using s6
      rw [e, zmy, if_neg s6]
      rfl
end Pl
end Go.Vx
end
section
set_option maxRecDepth 100000
namespace Go.Vx
namespace Pl
open Go Go.Proofs
abbrev ST := Bs × Bs × Int × Bool × Int × Int × Int × Int × Bool × Bool × Int × Int × Int × Int × Int × Int × Int × Int × Int × Bool × Bool × Int × Int × Int × Bool × Bool × Bool × Bs × Fs × Bs × Fs × List Rec
def PS.tupS (C : Cfg) (S : PS) : ST := (S.method, S.target, S.minor, S.chunked, S.stage, S.lines, S.head, S.need, S.begun, S.waits, C.p, C.line, C.fields, C.head, C.body, C.ext, C.trailers, C.wait, C.idle, C.chunked, C.old, S.err, C.p, S.most, S.pend, S.over, S.bad, S.b, S.fields, S.body, S.trailers, S.out)
def PS.longG (rec : PS -> UInt8 -> Bool -> PS) (C : Cfg) (S : PS) (c:UInt8) : PS :=
 if S.stage = 0 then S.fail 414 else if S.stage = 1 then S.fail 431 else if S.stage = 6 then S.fail 431
 else if S.stage = 5 then (if hasD C.p 29 = true then rec (S.to C 3) c true else S.fail 400) else S.fail 400
def PS.tailG (rec : PS -> UInt8 -> Bool -> PS) (C : Cfg) (S : PS) (c:UInt8) (r : PS × Int) : PS :=
 if r.2 = 1 then r.1.ended C
 else if r.2 = 2 then rec (r.1.ended C) c (if S.stage ≠ 3 ∧ S.stage ≠ 5 then decide (((r.1.ended C).out.length:Int) > (S.out.length:Int)) else true)
 else if r.2 = 4 then r.1.longG rec C c
 else if r.2 = 3 then r.1.fail 400 else r.1
def PS.mark (S : PS) : PS := { S with begun := true, waits := false }
def PS.stepG (rec : PS -> UInt8 -> Bool -> PS) (C : Cfg) (S : PS) (c:UInt8) (counts:Bool) : PS :=
 if S.err ≠ 0 then S
 else if S.stage = 2 ∨ S.stage = 4 then S.bodyB C c
 else if counts = true then
  (if (S.mark.counted C).2 = false then (S.mark.counted C).1 else (S.mark.counted C).1.tailG rec C c ((S.mark.counted C).1.lineB C c))
 else S.mark.tailG rec C c (S.mark.lineB C c)
def PS.step1 (C : Cfg) (S : PS) (c:UInt8) (counts:Bool) : PS := PS.stepG (fun S _ _ => S) C S c counts
def PS.step (C : Cfg) (S : PS) (c:UInt8) (counts:Bool) : PS := PS.stepG (PS.step1 C) C S c counts
theorem zqb (C : Cfg) (S : PS) (c:UInt8) : (S.lineB C c).1.lines = S.lines := by
 unfold PS.lineB
 repeat' split
 all_goals rfl
theorem zqc (C : Cfg) (S : PS) (c:UInt8) : (S.lineB C c).1.head = S.head := by
 unfold PS.lineB
 repeat' split
 all_goals rfl
theorem zqd (C : Cfg) (S : PS) (c:UInt8) : (S.lineB C c).1.need = S.need := by
 unfold PS.lineB
 repeat' split
 all_goals rfl
theorem zqe (C : Cfg) (S : PS) (c:UInt8) : (S.lineB C c).1.most = S.most := by
 unfold PS.lineB
 repeat' split
 all_goals rfl
theorem zqf (C : Cfg) (S : PS) (c:UInt8) : (S.lineB C c).1.fields = S.fields := by
 unfold PS.lineB
 repeat' split
 all_goals rfl
theorem zqg (C : Cfg) (S : PS) (c:UInt8) : (S.lineB C c).1.body = S.body := by
 unfold PS.lineB
 repeat' split
 all_goals rfl
theorem zqh (C : Cfg) (S : PS) (c:UInt8) : (S.lineB C c).1.trailers = S.trailers := by
 unfold PS.lineB
 repeat' split
 all_goals rfl
theorem zqi (C : Cfg) (S : PS) (c:UInt8) : (S.lineB C c).1.out = S.out := by
 unfold PS.lineB
 repeat' split
 all_goals rfl
theorem zqj (C : Cfg) (S : PS) : (S.counted C).1.stage = S.stage := by
 unfold PS.counted
 repeat' split
 all_goals rfl
theorem zqk (C : Cfg) (S : PS) : (S.counted C).1.lines = S.lines := by
 unfold PS.counted
 repeat' split
 all_goals rfl
theorem zql (C : Cfg) (S : PS) : (S.counted C).1.need = S.need := by
 unfold PS.counted
 repeat' split
 all_goals rfl
theorem zqm (C : Cfg) (S : PS) : (S.counted C).1.most = S.most := by
 unfold PS.counted
 repeat' split
 all_goals rfl
theorem zqn (C : Cfg) (S : PS) : (S.counted C).1.fields = S.fields := by
 unfold PS.counted
 repeat' split
 all_goals rfl
theorem zqo (C : Cfg) (S : PS) : (S.counted C).1.body = S.body := by
 unfold PS.counted
 repeat' split
 all_goals rfl
theorem zqp (C : Cfg) (S : PS) : (S.counted C).1.trailers = S.trailers := by
 unfold PS.counted
 repeat' split
 all_goals rfl
theorem zqq (C : Cfg) (S : PS) : (S.counted C).1.out = S.out := by
 unfold PS.counted
 repeat' split
 all_goals rfl
theorem zqr (C : Cfg) (S : PS) : (S.counted C).1.b = S.b := by
 unfold PS.counted
 repeat' split
 all_goals rfl
theorem zqs {C : Cfg} {S : PS} (h : Small C S) (c:UInt8) : Small C (S.lineB C c).1 where
 cbody := h.cbody
 b := by
  have hb := h.b
  have hm := h.most
  unfold PS.lineB
  repeat' split
  all_goals (first | exact hb | (simp; omega) | skip)
  all_goals (simp only [List.length_append, List.length_cons, List.length_nil] at *; omega)
 most := by rw [zqe]; exact h.most
 lines := by rw [zqb]; exact h.lines
 head := by rw [zqc]; exact h.head
 need := by rw [zqd]; exact h.need
 fields := by rw [zqf]; exact h.fields
 trailers := by rw [zqh]; exact h.trailers
 body := by rw [zqg]; exact h.body
 out := by rw [zqi]; exact h.out
theorem zqt {C : Cfg} {S : PS} (h : Small C S) (hh : S.head <= 999999999) : Small C (S.counted C).1 where
 cbody := h.cbody
 b := by rw [zqr]; exact h.b
 most := by rw [zqm]; exact h.most
 lines := by rw [zqk]; exact h.lines
 head := by
  have h0 := h.head
  unfold PS.counted
  repeat' split
  all_goals (simp only; omega)
 need := by rw [zql]; exact h.need
 fields := by rw [zqn]; exact h.fields
 trailers := by rw [zqp]; exact h.trailers
 body := by rw [zqo]; exact h.body
 out := by rw [zqq]; exact h.out
theorem zqu {C : Cfg} {S : PS} (h : Small C S) : Small C S.mark := ⟨h.cbody, h.b, h.most, h.lines, h.head, h.need, h.fields, h.trailers, h.body, h.out⟩
def zqv (C : Cfg) : Prop := ∀ s : Bs, s.length <= 4096 -> zq3 C s
end Pl
end Go.Vx
end
section
set_option maxRecDepth 100000
namespace Go.Vx
namespace Pl
open Go Go.Proofs
theorem zqw (C : Cfg) (S : PS) (c:UInt8) : ∃ pe ov ba bb k, S.lineB C c = ({ S with pend := pe, over := ov, bad := ba, b := bb }, k) := by
 refine ⟨(S.lineB C c).1.pend, (S.lineB C c).1.over, (S.lineB C c).1.bad, (S.lineB C c).1.b, (S.lineB C c).2, ?_⟩
 unfold PS.lineB
 repeat' split
 all_goals rfl
theorem zqx (C : Cfg) (S : PS) : ∃ h e k, S.counted C = ({ S with head := h, err := e }, k) := by
 refine ⟨(S.counted C).1.head, (S.counted C).1.err, (S.counted C).2, ?_⟩
 unfold PS.counted
 repeat' split
 all_goals rfl
def zqy (S : PS) : Prop := S.pend = false ∧ ((if S.over = true then ([] : Bs) else S.b).length:Int) < S.most
theorem zqz {C : Cfg} {S : PS} {c : UInt8} (h : zqy S) : (S.lineB C c).2 ≠ 2 ∧ (S.lineB C c).2 ≠ 4 := by
 obtain ⟨h1, h2⟩ := h
 unfold PS.lineB
 rw [h1]
 have h3 : ¬ (((if S.over = true then ([] : Bs) else S.b).length:Int) ≥ S.most) := by omega
 by_cases hb : S.bad = true
 ·rw [if_pos hb]; simp
 ·rw [if_neg hb, if_neg (by simp)]
  by_cases q1 : c = 13
  ·rw [if_pos q1]; simp
  ·rw [if_neg q1]
   by_cases q2 : c = 10
   ·rw [if_pos q2]
    split <;> simp
   ·rw [if_neg q2, if_neg h3]; simp
theorem ifB {α : Type} (a b : Tr α) {x : Bool} {P : Prop} [Decidable P] (h : x = decide P) : (Tr.br x a b).val = if P then a.val else b.val := by
 subst h
 by_cases h : P
 ·rw [decide_eq_true h, zmx, if_pos h]
 ·rw [decide_eq_false h, zmy, if_neg h]
theorem zr0 (a b:Int) : (a == b) = decide (a = b) := by by_cases h : a = b <;> simp [h]
theorem zr1 (a b:Int) : (a != b) = decide (a ≠ b) := by by_cases h : a = b <;> simp [h]
theorem zr2 {C : Cfg} {S : PS} (c:UInt8) (counts:Bool) (h : Small C S) (hh : S.head <= 999999999) (hL : zqv C) (hN : S.err = 0 -> S.stage ≠ 2 -> S.stage ≠ 4 -> zqy S) :
  q5d.f S.method S.target S.minor S.chunked S.stage S.lines S.head S.need S.begun S.waits C.p C.line C.fields C.head C.body C.ext C.trailers C.wait C.idle C.chunked C.old S.err C.p S.most S.pend S.over S.bad S.b S.fields S.body S.trailers S.out (c.toNat:Int) counts = some ((S.step1 C c counts).tupS C) := by
 unfold q5d.f q5d.t PS.step1 PS.stepG
 rw [ifB _ _ (zr1 S.err 0)]
 by_cases he : S.err = 0
 ·rw [if_neg (by simp [he]), if_neg (by simp [he]), ifB _ _ (zr0 S.stage 2)]
  have hbody := zq1 (C := C) c h.body h.out h.need.1 h.need.2
  have hbe : (S.bodyB C c).err = S.err := by
   unfold PS.bodyB
   simp only
   repeat' split
   all_goals rfl
  have hbt : some ((S.bodyB C c).tupS C) = some (((S.bodyB C c).method, (S.bodyB C c).target, (S.bodyB C c).minor, (S.bodyB C c).chunked, (S.bodyB C c).stage, (S.bodyB C c).lines, (S.bodyB C c).head, (S.bodyB C c).need, (S.bodyB C c).begun, (S.bodyB C c).waits, C.p, C.line, C.fields, C.head, C.body, C.ext, C.trailers, C.wait, C.idle, C.chunked, C.old, S.err, C.p, (S.bodyB C c).most, (S.bodyB C c).pend, (S.bodyB C c).over, (S.bodyB C c).bad, (S.bodyB C c).b, (S.bodyB C c).fields, (S.bodyB C c).body, (S.bodyB C c).trailers, (S.bodyB C c).out) : ST) := by
   unfold PS.tupS
   rw [hbe]
  by_cases s2 : S.stage = 2
  ·rw [if_pos s2, if_pos (.inl s2), hbt]
   repeat rw [vokl]
   rw [hbody, Tr.val_call rfl]
   rfl
  ·rw [if_neg s2, ifB _ _ (zr0 S.stage 4)]
   by_cases s4 : S.stage = 4
   ·rw [if_pos s4, if_pos (.inr s4), hbt]
    repeat rw [vokl]
    rw [hbody, Tr.val_call rfl]
    rfl
   ·rw [if_neg s4, if_neg (not_or.2 ⟨s2, s4⟩)]
    obtain ⟨hn1, hn2⟩ := hN he s2 s4
    cases counts with
    | true =>
     rw [zmx, if_pos rfl]
     repeat rw [vokl]
     rw [zq2 h.head.1 (by omega), Tr.val_call rfl]
     have hcm : (S.mark.counted C).1.head = (S.counted C).1.head ∧ (S.mark.counted C).1.err = (S.counted C).1.err ∧ (S.mark.counted C).2 = (S.counted C).2 := by
      unfold PS.counted PS.mark
      simp only
      repeat' split
      all_goals exact ⟨rfl, rfl, rfl⟩
     obtain ⟨hd, er, k, hc⟩ := zqx C S.mark
     have hsm : Small C (S.mark.counted C).1 := zqt (zqu h) hh
     rw [← hcm.1, ← hcm.2.1, ← hcm.2.2]
     rw [hc] at hsm ⊢
     simp only at hsm ⊢
     cases k with
     | false => rfl
     | true =>
      rw [show (!true) = false from rfl, zmy, if_neg (by simp)]
      have hnr : zqy ({ S.mark with head := hd, err := er } : PS) := ⟨hn1, hn2⟩
      repeat rw [vokl]
      have hB := zpz (C := C) (S := ({ S.mark with head := hd, err := er } : PS)) c hsm.most
      have hE := zqa (C := C) (S := (({ S.mark with head := hd, err := er } : PS).lineB C c).1) (zqs hsm c) (fun _ => hL _ (Nat.le_trans zq7 (zqs hsm c).b))
      obtain ⟨k2, k4⟩ := zqz (C := C) (c := c) hnr
      obtain ⟨pe, ov, ba, bb, k, hr⟩ := zqw C ({ S.mark with head := hd, err := er } : PS) c
      rw [hr] at hB hE k2 k4 ⊢
      simp only at hB hE k2 k4
      rw [show q2g.f C.p S.most S.pend S.over S.bad S.b (c.toNat:Int) = _ from hB, Tr.val_call rfl]
      unfold PS.tailG
      simp only
      rw [ifB _ _ (zr0 k 1)]
      by_cases e1 : k = 1
      ·rw [if_pos e1, if_pos e1]
       repeat rw [vokl]
       rw [show q4p.f S.method S.target S.minor S.chunked S.stage S.lines hd S.need true false C.p C.line C.fields C.body C.ext C.trailers C.chunked C.old er C.p S.most pe ov ba bb S.fields S.body S.trailers S.out = _ from hE, Tr.val_call rfl]
       rfl
      ·rw [if_neg e1, if_neg e1, ifB _ _ (zr0 k 2), if_neg k2, if_neg k2, ifB _ _ (zr0 k 4), if_neg k4, if_neg k4, ifB _ _ (zr0 k 3)]
       by_cases e3 : k = 3
       ·rw [if_pos e3, if_pos e3]; rfl
       ·rw [if_neg e3, if_neg e3]; rfl
    | false =>
     rw [zmy, if_neg (by simp)]
     have hsm := zqu h
     have hnr : zqy S.mark := ⟨hn1, hn2⟩
     repeat rw [vokl]
     have hB := zpz (C := C) (S := S.mark) c hsm.most
     have hE := zqa (C := C) (S := (S.mark.lineB C c).1) (zqs hsm c) (fun _ => hL _ (Nat.le_trans zq7 (zqs hsm c).b))
     obtain ⟨k2, k4⟩ := zqz (C := C) (c := c) hnr
     obtain ⟨pe, ov, ba, bb, k, hr⟩ := zqw C S.mark c
     rw [hr] at hB hE k2 k4 ⊢
     simp only at hB hE k2 k4
     rw [show q2g.f C.p S.most S.pend S.over S.bad S.b (c.toNat:Int) = _ from hB, Tr.val_call rfl]
     unfold PS.tailG
     simp only
     rw [ifB _ _ (zr0 k 1)]
     by_cases e1 : k = 1
     ·rw [if_pos e1, if_pos e1]
      repeat rw [vokl]
      rw [show q4p.f S.method S.target S.minor S.chunked S.stage S.lines S.head S.need true false C.p C.line C.fields C.body C.ext C.trailers C.chunked C.old S.err C.p S.most pe ov ba bb S.fields S.body S.trailers S.out = _ from hE, Tr.val_call rfl]
      rfl
     ·rw [if_neg e1, if_neg e1, ifB _ _ (zr0 k 2), if_neg k2, if_neg k2, ifB _ _ (zr0 k 4), if_neg k4, if_neg k4, ifB _ _ (zr0 k 3)]
      by_cases e3 : k = 3
      ·rw [if_pos e3, if_pos e3]; rfl
      ·rw [if_neg e3, if_neg e3]; rfl
 ·rw [if_pos he, if_pos he]; rfl
end Pl
end Go.Vx
end
section
set_option maxRecDepth 100000
namespace Go.Vx
namespace Pl
open Go Go.Proofs
theorem zr3 (base:Nat) (most:Int) (s : Bs) : 0 <= (numS base most s).1 ∧ (numS base most s).1 <= max most 0 := by
 unfold numS
 split
 ·simp; omega
 ·split
  ·simp only; omega
  ·simp; omega
theorem zr4 {q : Int × Int} {M : Int} (h : 0 <= q.1 ∧ q.1 <= M) : 0 <= (zne q).1 ∧ (zne q).1 <= M := by
 unfold zne
 split
 ·exact ⟨Int.le_refl _, by have := h.1; have := h.2; omega⟩
 ·split
  ·exact ⟨Int.le_refl _, by have := h.1; have := h.2; omega⟩
  ·exact h
theorem zr5 (s : Bs) (p body ext:Int) : 0 <= (znf s p body ext).1 ∧ (znf s p body ext).1 <= max body 0 := by
 unfold znf
 split
 ·simp; omega
 ·split
  ·simp; omega
  ·exact zr4 (zr3 _ _ _)
theorem zr6 (v : List Bs) (p most:Int) : 0 <= (zpa v p most).1 ∧ (zpa v p most).1 <= max most 0 := by
 unfold zpa
 generalize (if hasD p 24 = true then zkf v else v) = l
 unfold zp9
 split
 ·simp; omega
 ·unfold zp8
  split
  ·exact zr4 (zr3 _ _ _)
  ·simp; omega
theorem zr7 {q : Int × Int} {M : Int} (h : 0 <= q.1 ∧ q.1 <= M) : 0 <= (zph q).2.1 ∧ (zph q).2.1 <= M := by
 have hz : (0:Int) <= 0 ∧ (0:Int) <= M := by have := h.1; have := h.2; omega
 unfold zph
 split
 ·exact hz
 ·exact h
theorem zr8 (l : Fs) (p body:Int) (ch:Bool) (minor:Int) : 0 <= (zpj l p body ch minor).2.1 ∧ (zpj l p body ch minor).2.1 <= max body 0 := by
 have hf := zr7 (zr6 (zkg l zpf) p body)
 have hz : (0:Int) <= 0 ∧ (0:Int) <= max body 0 := by omega
 unfold zpj
 split
 ·exact hz
 ·split
  ·unfold zpi
   cases (decide (minor = 0) && !hasD p 20)
   ·cases (zox (zkg l zpe) p && (decide ((zkg l zpf).length = 0) || hasD p 21) && ch)
    ·cases (zox (zkg l zpe) p && (decide ((zkg l zpf).length = 0) || hasD p 21) || !zox (zkg l zpe) p && !hasD p 19)
     ·cases (zox (zkg l zpe) p && !hasD p 22)
      ·exact hf
      ·exact hz
     ·exact hz
    ·exact hz
   ·exact hz
  ·exact hf
def LB (k:Int) (l : Fs) : Prop := (l.length:Int) <= k ∧ ∀ f ∈ l, f.1.length <= 4096 ∧ (f.2.length:Int) <= 4097 * k
theorem LB.mono {k k' : Int} {l : Fs} (h : LB k l) (hk : k <= k') : LB k' l := ⟨Int.le_trans h.1 hk, fun f hf => ⟨(h.2 f hf).1, by have := (h.2 f hf).2; omega⟩⟩
theorem LB.nil {k : Int} (hk : 0 <= k) : LB k [] := ⟨by simpa using hk, fun f hf => by simp at hf⟩
theorem LB.fit {k : Int} {l : Fs} (h : LB k l) (hk : k <= 101) : FitF l := by
 refine ⟨by have := h.1; omega, fun f hf => ?_⟩
 have := h.2 f hf
 omega
theorem zr9 (s : Bs) : (trim s).length <= s.length := zkd zjd s
theorem zra (s : Bs) (p:Int) : (zn4 s p).1.length <= s.length ∧ (zn4 s p).2.1.length <= s.length := by
 have hc := zmn (c := 58) (s := s)
 have hn : (zn3 p (cutC 58 s).1).length <= (cutC 58 s).1.length := by
  unfold zn3
  split
  ·exact zk1 _
  ·exact Nat.le_refl _
 have ht := zr9 (cutC 58 s).2.1
 unfold zn4
 split
 ·unfold outS; split <;> simp
 ·split
  ·unfold outS; split <;> simp
  ·split
   ·simp only; omega
   ·simp
theorem LB.field {k : Int} {l : Fs} {p : Int} {s : Bs} {e : Int} (h : LB k l) (hk : 0 <= k) (hs : s.length <= 4096) : LB (k + 1) (zpu p l s e).1 := by
 have hf := zra s p
 have ht := zr9 s
 unfold zpu
 by_cases h1 : l ≠ [] ∧ zna s p = true
 ·rw [if_pos h1]
  have hpos : 0 < l.length := List.length_pos_iff.2 h1.1
  have hmem : l.getD (l.length - 1) ([], []) ∈ l := by
   rw [List.getD_eq_getElem?_getD, List.getElem?_eq_getElem (by omega)]
   exact List.getElem_mem _
  refine ⟨by have := h.1; simp; omega, fun f hf' => ?_⟩
  rcases List.mem_or_eq_of_mem_set hf' with hm | rfl
  ·have := h.2 f hm; omega
  ·have := h.2 _ hmem
   simp only [List.length_append, List.length_cons]
   omega
 ·rw [if_neg h1]
  split
  ·refine ⟨by have := h.1; simp; omega, fun f hf' => ?_⟩
   rcases List.mem_append.1 hf' with hm | hm
   ·have := h.2 f hm; omega
   ·simp only [List.mem_singleton] at hm
    subst hm
    simp only
    omega
  ·exact h.mono (by omega)
structure zrb (C : Cfg) : Prop where
 line : 64 <= C.line ∧ C.line <= 4096
 fields : 0 <= C.fields ∧ C.fields <= 100
 trailers : 0 <= C.trailers ∧ C.trailers <= 100
 head : 0 <= C.head ∧ C.head <= 65536
 body : 0 <= C.body ∧ C.body <= 1048576
theorem zrb.most {C : Cfg} (h : zrb C) : zpt C.line = C.line := by
 have := h.line
 unfold zpt
 rw [z1h, z1i]
 omega
structure Inv (C : Cfg) (n:Nat) (S : PS) : Prop where
 b : S.b.length <= 4096
 most : S.most = if S.stage = 5 then 0 else C.line
 lines : 0 <= S.lines ∧ S.lines <= 101
 head : 0 <= S.head ∧ S.head <= 65537
 need : 0 <= S.need ∧ S.need <= 1048576
 stage : 0 <= S.stage ∧ S.stage <= 6
 f1 : LB 101 S.fields
 f2 : S.stage <= 1 -> LB S.lines S.fields
 t1 : LB 101 S.trailers
 t2 : S.stage = 6 -> LB S.lines S.trailers
 t3 : S.stage ≠ 6 -> S.trailers = []
 body : S.body.length <= n
 out : S.out.length <= n
theorem Inv.mono {C : Cfg} {n m : Nat} {S : PS} (h : Inv C n S) (hn : n <= m) : Inv C m S :=
 {h with body := Nat.le_trans h.body hn, out := Nat.le_trans h.out hn }
theorem Inv.small {C : Cfg} {n : Nat} {S : PS} (hC : zrb C) (h : Inv C n S) (hn : n <= 1000000000) : Small C S where
 cbody := by have := hC.body; omega
 b := h.b
 most := by
  have := hC.line
  rw [h.most]
  split <;> omega
 lines := by have := h.lines; omega
 head := by have := h.head; omega
 need := by have := h.need; omega
 fields := h.f1.fit (Int.le_refl _)
 trailers := h.t1.fit (Int.le_refl _)
 body := Nat.le_trans h.body hn
 out := Nat.le_trans h.out hn
theorem Inv.fail {C : Cfg} {n : Nat} {S : PS} (h : Inv C n S) (e:Int) : Inv C n (S.fail e) := ⟨h.b, h.most, h.lines, h.head, h.need, h.stage, h.f1, h.f2, h.t1, h.t2, h.t3, h.body, h.out⟩
theorem Inv.mark {C : Cfg} {n : Nat} {S : PS} (h : Inv C n S) : Inv C n S.mark := ⟨h.b, h.most, h.lines, h.head, h.need, h.stage, h.f1, h.f2, h.t1, h.t2, h.t3, h.body, h.out⟩
theorem Inv.whole {C : Cfg} {n : Nat} {S : PS} (hC : zrb C) (h : Inv C n S) : Inv C (n + 1) (S.whole C) := by
 have ho := h.out
 refine ⟨by simp [PS.whole], ?_, (by decide : (0:Int) <= 0 ∧ (0:Int) <= 101), (by decide : (0:Int) <= 0 ∧ (0:Int) <= 65537), (by decide : (0:Int) <= 0 ∧ (0:Int) <= 1048576), (by decide : (0:Int) <= 0 ∧ (0:Int) <= 6), LB.nil (by decide), fun _ => LB.nil (Int.le_refl _), LB.nil (by decide), fun _ => LB.nil (Int.le_refl _), fun _ => rfl, by simp [PS.whole], ?_⟩
 ·show zpt C.line = _
  rw [hC.most]; rfl
 ·show (S.out ++ [S.rec_]).length <= n + 1
  rw [List.length_append]
  simp only [List.length_cons, List.length_nil]
  omega
theorem Inv.to3 {C : Cfg} {n : Nat} {S : PS} (hC : zrb C) (h : Inv C n S) (h6 : S.stage ≠ 6) : Inv C n (S.to C 3) := by
 refine ⟨by simp [PS.to], ?_, h.lines, h.head, h.need, by simp [PS.to], h.f1, fun hs => absurd hs (by simp [PS.to]), h.t1, fun hs => absurd hs (by simp [PS.to]), fun _ => h.t3 h6, h.body, h.out⟩
 show zpt (if (3:Int) = 5 then 0 else C.line) = _
 rw [if_neg (by decide), hC.most]; rfl
theorem Inv.to5 {C : Cfg} {n : Nat} {S : PS} (hC : zrb C) (h : Inv C n S) (h6 : S.stage ≠ 6) : Inv C n (S.to C 5) := by
 refine ⟨by simp [PS.to], ?_, h.lines, h.head, h.need, by simp [PS.to], h.f1, fun hs => absurd hs (by simp [PS.to]), h.t1, fun hs => absurd hs (by simp [PS.to]), fun _ => h.t3 h6, h.body, h.out⟩
 show zpt (if (5:Int) = 5 then 0 else C.line) = _
 rw [if_pos rfl]; rfl
theorem Inv.bodyB {C : Cfg} {n : Nat} {S : PS} (hC : zrb C) (h : Inv C n S) (hs : S.stage = 2 ∨ S.stage = 4) (hneed : 1 <= S.need) (c:UInt8) : Inv C (n + 2) (S.bodyB C c) := by
 have hT : Inv C (n + 1) { S with waits := false, body := S.body ++ [c], need := S.need - 1 } := by
  refine ⟨h.b, h.most, h.lines, h.head, by have := h.need; simp only; omega, h.stage, h.f1, h.f2, h.t1, h.t2, h.t3, ?_, by have := h.out; simp only; omega⟩
  have := h.body
  simp; omega
 have h6 : S.stage ≠ 6 := by omega
 unfold PS.bodyB
 simp only
 split
 ·exact hT.mono (by omega)
 ·split
  ·exact hT.whole hC
  ·exact (hT.to5 hC h6).mono (by omega)
theorem Inv.counted {C : Cfg} {n : Nat} {S : PS} (hC : zrb C) (h : Inv C n S) (hle : S.head <= C.head) : Inv C n (S.counted C).1 := by
 have h1 := h.head
 have h2 := hC.head
 unfold PS.counted
 split
 ·exact h
 ·split
  ·exact ⟨h.b, h.most, h.lines, by simp only; omega, h.need, h.stage, h.f1, h.f2, h.t1, h.t2, h.t3, h.body, h.out⟩
  ·exact ⟨h.b, h.most, h.lines, by simp only; omega, h.need, h.stage, h.f1, h.f2, h.t1, h.t2, h.t3, h.body, h.out⟩
theorem Inv.lineB {C : Cfg} {n : Nat} {S : PS} (hC : zrb C) (h : Inv C n S) (hn : n <= 1000000000) (c:UInt8) : Inv C n (S.lineB C c).1 := by
 have hb := (zqs (h.small hC hn) c).b
 obtain ⟨pe, ov, ba, bb, k, hr⟩ := zqw C S c
 rw [hr] at hb ⊢
 exact ⟨hb, h.most, h.lines, h.head, h.need, h.stage, h.f1, h.f2, h.t1, h.t2, h.t3, h.body, h.out⟩
theorem Inv.ended {C : Cfg} {n : Nat} {S : PS} (hC : zrb C) (h : Inv C n S) (h100 : S.lines <= 100) : Inv C (n + 1) (S.ended C) := by
 have HL : 0 <= S.lines + 1 ∧ S.lines + 1 <= 101 := by have := h.lines; omega
 have hls : S.lineS.length <= 4096 := Nat.le_trans zq7 h.b
 have hm := h.mono (Nat.le_succ n)
 have hl := h.lines
 have hcf := hC.fields
 have hct := hC.trailers
 have hcb := hC.body
 unfold PS.ended
 by_cases s0 : S.stage = 0
 ·rw [if_pos s0]
  unfold PS.request
  split
  ·exact ⟨hm.b, hm.most, hm.lines, hm.head, hm.need, hm.stage, hm.f1, hm.f2, hm.t1, hm.t2, hm.t3, hm.body, hm.out⟩
  ·refine ⟨hm.b, ?_, hm.lines, hm.head, hm.need, ?_, hm.f1, fun _ => hm.f2 (by omega), hm.t1, ?_, fun _ => hm.t3 (by omega), hm.body, hm.out⟩
   ·have hmo := hm.most
    have h5 : (if (zog S.lineS C.p C.old).2.2.2 = 0 then (1:Int) else S.stage) ≠ 5 := by
     rw [s0]
     split <;> decide
    rw [if_neg (by omega)] at hmo
    show S.most = if (if (zog S.lineS C.p C.old).2.2.2 = 0 then (1:Int) else S.stage) = 5 then 0 else C.line
    rw [if_neg h5, hmo]
   ·simp only
    rw [s0]
    split <;> decide
   ·simp only
    intro hs
    rw [s0] at hs
    split at hs <;> cases hs
 ·rw [if_neg s0]
  by_cases s1 : S.stage = 1
  ·rw [if_pos s1]
   have h6 : S.stage ≠ 6 := by omega
   split
   ·unfold PS.framed
    have hbd := zr8 S.fields C.p C.body C.chunked S.minor
    simp only
    split
    ·exact hm.fail _
    ·split
     ·have := hm.to3 hC h6
      exact ⟨this.b, this.most, this.lines, this.head, this.need, this.stage, this.f1, this.f2, this.t1, this.t2, this.t3, this.body, this.out⟩
     ·split
      ·exact h.whole hC
      ·refine ⟨hm.b, ?_, hm.lines, hm.head, by simp only; omega, by simp, hm.f1, fun hs => absurd hs (by simp), hm.t1, fun hs => absurd hs (by simp), fun _ => hm.t3 h6, hm.body, hm.out⟩
       have := hm.most
       simp only
       rw [this, s1]
       rfl
   ·unfold PS.fieldF
    have hF := h.f2 (by omega)
    split
    ·exact ⟨hm.b, hm.most, HL, hm.head, hm.need, hm.stage, hm.f1, fun _ => hF.mono (show S.lines <= S.lines + 1 by omega), hm.t1, fun hs => absurd hs h6, hm.t3, hm.body, hm.out⟩
    ·have hF2 := hF.field (p := C.p) (s := S.lineS) (e := S.err) hl.1 hls
     exact ⟨hm.b, hm.most, HL, hm.head, hm.need, hm.stage, hF2.mono (by omega), fun _ => hF2, hm.t1, fun hs => absurd hs h6, hm.t3, hm.body, hm.out⟩
  ·rw [if_neg s1]
   by_cases s3 : S.stage = 3
   ·rw [if_pos s3]
    have h6 : S.stage ≠ 6 := by omega
    have hbd := zr5 S.lineS C.p C.body C.ext
    unfold PS.chunk
    simp only
    split
    ·exact hm.fail _
    ·split
     ·exact hm.fail _
     ·split
      ·refine ⟨by simp [PS.to], ?_, by simp [PS.to], hm.head, hm.need, by simp [PS.to], hm.f1, fun hs => absurd hs (by simp [PS.to]), hm.t1, fun _ => ?_, fun _ => hm.t3 h6, hm.body, hm.out⟩
       ·show zpt (if (6:Int) = 5 then 0 else C.line) = _
        rw [if_neg (by decide), hC.most]; rfl
       ·show LB 0 S.trailers
        rw [hm.t3 h6]
        exact LB.nil (Int.le_refl _)
      ·refine ⟨hm.b, ?_, hm.lines, hm.head, by simp only; omega, by simp, hm.f1, fun hs => absurd hs (by simp), hm.t1, fun hs => absurd hs (by simp), fun _ => hm.t3 h6, hm.body, hm.out⟩
       have := hm.most
       simp only
       rw [this, s3]
       rfl
   ·rw [if_neg s3]
    by_cases s5 : S.stage = 5
    ·rw [if_pos s5]
     exact hm.to3 hC (by omega)
    ·rw [if_neg s5]
     by_cases s6 : S.stage = 6
     ·rw [if_pos s6]
      split
      ·exact h.whole hC
      ·unfold PS.fieldT
       have hF := h.t2 s6
       split
       ·exact ⟨hm.b, hm.most, HL, hm.head, hm.need, hm.stage, hm.f1, fun hs => absurd hs (by simp only; omega), hm.t1, fun _ => hF.mono (show S.lines <= S.lines + 1 by omega), fun hs => absurd s6 hs, hm.body, hm.out⟩
       ·have hF2 := hF.field (p := C.p) (s := S.lineS) (e := S.err) hl.1 hls
        exact ⟨hm.b, hm.most, HL, hm.head, hm.need, hm.stage, hm.f1, fun hs => absurd hs (by simp only; omega), hF2.mono (by omega), fun _ => hF2, fun hs => absurd s6 hs, hm.body, hm.out⟩
     ·rw [if_neg s6]
      exact hm
def Live (C : Cfg) (S : PS) : Prop := S.err = 0 -> S.lines <= 100 ∧ S.head <= C.head ∧ (S.stage = 2 ∨ S.stage = 4 -> 1 <= S.need)
theorem zrc {C : Cfg} {S : PS} (hC : zrb C) (h1 : S.lines <= 100) (h2 : S.head <= C.head) (h3 : ¬ (S.stage = 2 ∨ S.stage = 4)) : Live C (S.ended C) := by
 have hcf := hC.fields
 have hct := hC.trailers
 have hch := hC.head
 have e3 : (S.stage = 2 ∨ S.stage = 4 -> 1 <= S.need) := fun h => absurd h h3
 have hw : ∀ T : PS, Live C (T.whole C) := fun T _ => ⟨by show (0:Int) <= 100; omega, by show (0:Int) <= C.head; omega, fun h => by rcases h with h | h <;> cases h⟩
 have hto : ∀ st : Int, st ≠ 2 -> st ≠ 4 -> Live C (S.to C st) := fun st q1 q2 _ => ⟨h1, h2, fun h => by
  rcases h with h | h
  ·exact absurd h q1
  ·exact absurd h q2⟩
 unfold PS.ended
 by_cases s0 : S.stage = 0
 ·rw [if_pos s0]
  unfold PS.request
  split
  ·exact fun _ => ⟨h1, h2, e3⟩
  ·intro he
   refine ⟨h1, h2, fun h => ?_⟩
   simp only at h
   rw [s0] at h
   split at h <;> rcases h with h | h <;> cases h
 ·rw [if_neg s0]
  by_cases s1 : S.stage = 1
  ·rw [if_pos s1]
   split
   ·unfold PS.framed
    have hbd := zr8 S.fields C.p C.body C.chunked S.minor
    simp only
    split
    ·exact fun _ => ⟨h1, h2, e3⟩
    ·split
     ·exact fun _ => ⟨h1, h2, fun h => by rcases h with h | h <;> cases h⟩
     ·split
      ·exact hw S
      ·exact fun _ => ⟨h1, h2, fun _ => by simp only; omega⟩
   ·unfold PS.fieldF
    split
    ·exact fun he => absurd he (by simp)
    ·exact fun _ => ⟨by simp only; omega, h2, e3⟩
  ·rw [if_neg s1]
   by_cases s3 : S.stage = 3
   ·rw [if_pos s3]
    have hbd := zr5 S.lineS C.p C.body C.ext
    unfold PS.chunk
    simp only
    split
    ·exact fun _ => ⟨h1, h2, e3⟩
    ·split
     ·exact fun _ => ⟨h1, h2, e3⟩
     ·split
      ·exact fun _ => ⟨by show (0:Int) <= 100; omega, h2, fun h => by rcases h with h | h <;> cases h⟩
      ·exact fun _ => ⟨h1, h2, fun _ => by simp only; omega⟩
   ·rw [if_neg s3]
    by_cases s5 : S.stage = 5
    ·rw [if_pos s5]
     exact hto 3 (by decide) (by decide)
    ·rw [if_neg s5]
     by_cases s6 : S.stage = 6
     ·rw [if_pos s6]
      split
      ·exact hw S
      ·unfold PS.fieldT
       split
       ·exact fun he => absurd he (by simp)
       ·exact fun _ => ⟨by simp only; omega, h2, e3⟩
     ·rw [if_neg s6]
      exact fun _ => ⟨h1, h2, e3⟩
theorem zrd {C : Cfg} {n : Nat} {S : PS} (hC : zrb C) (h : Inv C (n + 1) (S.ended C)) (ho : S.over = true) (hp : S.pend = false) : zqy (S.ended C) := by
 have hline := hC.line
 have key : (S.ended C).pend = false ∧ ((S.ended C).over = true ∨ (S.ended C).b = []) ∧ (S.ended C).stage ≠ 5 := by
  unfold PS.ended
  by_cases s0 : S.stage = 0
  ·rw [if_pos s0]
   unfold PS.request
   split
   ·exact ⟨hp, .inl ho, by simp only; omega⟩
   ·refine ⟨hp, .inl ho, ?_⟩
    simp only
    rw [s0]
    split <;> decide
  ·rw [if_neg s0]
   by_cases s1 : S.stage = 1
   ·rw [if_pos s1]
    split
    ·unfold PS.framed
     simp only
     split
     ·exact ⟨hp, .inl ho, by simp only [PS.fail]; omega⟩
     ·split
      ·exact ⟨rfl, .inr rfl, by simp [PS.to]⟩
      ·split
       ·exact ⟨rfl, .inr rfl, by simp [PS.whole]⟩
       ·exact ⟨hp, .inl ho, by simp⟩
    ·unfold PS.fieldF
     split
     ·exact ⟨hp, .inl ho, by simp only; omega⟩
     ·exact ⟨hp, .inl ho, by simp only; omega⟩
   ·rw [if_neg s1]
    by_cases s3 : S.stage = 3
    ·rw [if_pos s3]
     unfold PS.chunk
     simp only
     split
     ·exact ⟨hp, .inl ho, by simp only [PS.fail]; omega⟩
     ·split
      ·exact ⟨hp, .inl ho, by simp only [PS.fail]; omega⟩
      ·split
       ·exact ⟨rfl, .inr rfl, by simp [PS.to]⟩
       ·exact ⟨hp, .inl ho, by simp⟩
    ·rw [if_neg s3]
     by_cases s5 : S.stage = 5
     ·rw [if_pos s5]
      exact ⟨rfl, .inr rfl, by simp [PS.to]⟩
     ·rw [if_neg s5]
      by_cases s6 : S.stage = 6
      ·rw [if_pos s6]
       split
       ·exact ⟨rfl, .inr rfl, by simp [PS.whole]⟩
       ·unfold PS.fieldT
        split
        ·exact ⟨hp, .inl ho, by simp only; omega⟩
        ·exact ⟨hp, .inl ho, by simp only; omega⟩
      ·rw [if_neg s6]
       exact ⟨hp, .inl ho, s5⟩
 obtain ⟨k1, k2, k3⟩ := key
 refine ⟨k1, ?_⟩
 rw [h.most, if_neg k3]
 have : (if (S.ended C).over = true then ([] : Bs) else (S.ended C).b).length = 0 := by
  rcases k2 with k2 | k2
  ·rw [if_pos k2]; rfl
  ·rw [k2]; split <;> rfl
 omega
end Pl
end Go.Vx
end
section
set_option maxRecDepth 100000
namespace Go.Vx
namespace Pl
open Go Go.Proofs
def Good (C : Cfg) (n:Nat) (S : PS) : Prop := Inv C n S ∧ Live C S
theorem Good.mono {C : Cfg} {n m : Nat} {S : PS} (h : Good C n S) (hn : n <= m) : Good C m S := ⟨h.1.mono hn, h.2⟩
theorem zre {C : Cfg} {S : PS} (hC : zrb C) (h : Live C S) (he : S.err = 0) (c:UInt8) : Live C (S.bodyB C c) := by
 obtain ⟨h1, h2, h3⟩ := h he
 have hch := hC.head
 unfold PS.bodyB
 simp only
 split
 ·exact fun _ => ⟨h1, h2, fun _ => by simp only; omega⟩
 ·split
  ·exact fun _ => ⟨by show (0:Int) <= 100; omega, by show (0:Int) <= C.head; omega, fun h => by rcases h with h | h <;> cases h⟩
  ·exact fun _ => ⟨h1, h2, fun h => by rcases h with h | h <;> cases h⟩
theorem zrf {rec : PS -> UInt8 -> Bool -> PS} {C : Cfg} {n k : Nat} {U : PS} (hC : zrb C) (hn : n <= 100000000) (hk : 3 <= k) (c:UInt8) (hrec : ∀ T b, Good C (n + 1) T -> Good C (n + k) (rec T c b)) (h : Good C n U) (he : U.err = 0) (h24 : ¬ (U.stage = 2 ∨ U.stage = 4)) : Good C (n + k) (U.tailG rec C c (U.lineB C c)) := by
 obtain ⟨h1, h2, h3⟩ := h.2 he
 have hI := h.1.lineB hC (by omega) c
 obtain ⟨pe, ov, ba, bb, q, hr⟩ := zqw C U c
 rw [hr] at hI ⊢
 simp only at hI
 have hE : Good C (n + 1) (PS.ended C { U with pend := pe, over := ov, bad := ba, b := bb }) := ⟨hI.ended hC h1, zrc hC h1 h2 h24⟩
 have hF : ∀ e, Good C n (PS.fail { U with pend := pe, over := ov, bad := ba, b := bb } e) := fun e => ⟨hI.fail e, fun _ => ⟨h1, h2, h3⟩⟩
 unfold PS.tailG
 simp only
 split
 ·exact hE.mono (by omega)
 ·split
  ·exact hrec _ _ hE
  ·split
   ·unfold PS.longG
    split
    ·exact (hF _).mono (by omega)
    ·split
     ·exact (hF _).mono (by omega)
     ·split
      ·exact (hF _).mono (by omega)
      ·split
       ·rename_i h5
        split
        ·have h6 : ¬ (U.stage = 6) := by
          have : U.stage = 5 := h5
          omega
         exact hrec _ _ ⟨(hI.to3 hC h6).mono (by omega), fun _ => ⟨h1, h2, fun h => by rcases h with h | h <;> cases h⟩⟩
        ·exact (hF _).mono (by omega)
       ·exact (hF _).mono (by omega)
   ·split
    ·exact (hF _).mono (by omega)
    ·exact ⟨hI.mono (by omega), fun _ => ⟨h1, h2, h3⟩⟩
theorem zrg {C : Cfg} {S : PS} (h : (S.counted C).2 = true) (he : S.err = 0) : (S.counted C).1.err = 0 := by
 unfold PS.counted at h ⊢
 split
 ·exact he
 ·split
  ·rename_i h1 h2
   rw [if_neg h1, if_pos h2] at h
   cases h
  ·exact he
theorem zrh {C : Cfg} {S : PS} (h : Live C S) (he : S.err = 0) : Live C (S.counted C).1 := by
 obtain ⟨h1, h2, h3⟩ := h he
 unfold PS.counted
 split
 ·exact h
 ·split
  ·exact fun he => absurd he (by simp)
  ·exact fun _ => ⟨h1, by simp only; omega, h3⟩
theorem zri {rec : PS -> UInt8 -> Bool -> PS} {C : Cfg} {n k : Nat} {S : PS} (hC : zrb C) (hn : n <= 100000000) (hk : 3 <= k) (c:UInt8) (cnt:Bool) (hrec : ∀ T b, Good C (n + 1) T -> Good C (n + k) (rec T c b)) (h : Good C n S) : Good C (n + k) (S.stepG rec C c cnt) := by
 unfold PS.stepG
 by_cases he : S.err = 0
 ·rw [if_neg (by simp [he])]
  obtain ⟨h1, h2, h3⟩ := h.2 he
  by_cases h24 : S.stage = 2 ∨ S.stage = 4
  ·rw [if_pos h24]
   exact ⟨(h.1.bodyB hC h24 (h3 h24) c).mono (by omega), zre hC h.2 he c⟩
  ·rw [if_neg h24]
   cases cnt with
   | true =>
    rw [if_pos rfl]
    have hc : Good C n (S.mark.counted C).1 := ⟨h.1.mark.counted hC h2, zrh h.2 he⟩
    by_cases hk2 : (S.mark.counted C).2 = false
    ·rw [if_pos hk2]; exact hc.mono (by omega)
    ·rw [if_neg hk2]
     refine zrf hC hn hk c hrec hc (zrg (by simpa using hk2) he) ?_
     rw [zqj]; exact h24
   | false =>
    rw [if_neg (by simp)]
    exact zrf hC hn hk c hrec ⟨h.1.mark, h.2⟩ he h24
 ·rw [if_pos he]; exact h.mono (by omega)
theorem zrj {C : Cfg} {n : Nat} {S : PS} (hC : zrb C) (hn : n <= 100000000) (c:UInt8) (cnt:Bool) (h : Good C n S) : Good C (n + 3) (S.step1 C c cnt) := zri hC hn (Nat.le_refl _) c cnt (fun T b hT => hT.mono (by omega)) h
theorem zrk {C : Cfg} {n : Nat} {S : PS} (hC : zrb C) (hn : n <= 90000000) (c:UInt8) (cnt:Bool) (h : Good C n S) : Good C (n + 4) (S.step C c cnt) := zri hC (by omega) (by omega) c cnt (fun T b hT => (zrj hC (by omega) c b hT).mono (by omega)) h
theorem zrl {C : Cfg} {S : PS} {c : UInt8} (h : (S.lineB C c).2 = 2) : (S.lineB C c).1.over = true ∧ (S.lineB C c).1.pend = false := by
 unfold PS.lineB at h ⊢
 by_cases hb : S.bad = true
 ·rw [if_pos hb] at h; cases h
 ·rw [if_neg hb] at h ⊢
  by_cases hp : S.pend = true
  ·rw [if_pos hp] at h ⊢
   by_cases h10 : c = 10
   ·rw [if_pos h10] at h; cases h
   ·rw [if_neg h10] at h ⊢
    by_cases h2 : hasD C.p 2 = true
    ·rw [if_pos h2]; exact ⟨rfl, rfl⟩
    ·rw [if_neg h2] at h; cases h
  ·rw [if_neg hp] at h
   by_cases h13 : c = 13
   ·rw [if_pos h13] at h; cases h
   ·rw [if_neg h13] at h
    by_cases h10 : c = 10
    ·rw [if_pos h10] at h
     by_cases h1 : hasD C.p 1 = true
     ·rw [if_pos h1] at h; cases h
     ·rw [if_neg h1] at h; cases h
    ·rw [if_neg h10] at h
     by_cases hl : ((if S.over = true then ([] : Bs) else S.b).length:Int) ≥ S.most
     ·rw [if_pos hl] at h; cases h
     ·rw [if_neg hl] at h; cases h
theorem zrm {C : Cfg} {n : Nat} {S : PS} (hC : zrb C) (hn : n <= 100000000) (c:UInt8) (counts:Bool) (h : Good C n S) (hL : zqv C) (hN : zqy S) :
  q5d.f S.method S.target S.minor S.chunked S.stage S.lines S.head S.need S.begun S.waits C.p C.line C.fields C.head C.body C.ext C.trailers C.wait C.idle C.chunked C.old S.err C.p S.most S.pend S.over S.bad S.b S.fields S.body S.trailers S.out (c.toNat:Int) counts = some ((S.step1 C c counts).tupS C) :=
 zr2 c counts (h.1.small hC (by omega)) (by have := h.1.head; omega) hL (fun _ _ _ => hN)
theorem zrn {C : Cfg} {n : Nat} {S : PS} (hC : zrb C) (hn : n <= 90000000) (c:UInt8) (h : Inv C n S) (hv : S.lines <= 100 ∧ S.head <= C.head) (hL : zqv C) :
  q54.f S.method S.target S.minor S.chunked S.stage S.lines S.head S.need S.begun S.waits C.p C.line C.fields C.head C.body C.ext C.trailers C.wait C.idle C.chunked C.old S.err C.p S.most S.pend S.over S.bad S.b S.fields S.body S.trailers S.out (c.toNat:Int) = some ((S.longG (PS.step1 C) C c).tupS C) := by
 have hline := hC.line
 unfold q54.f q54.t PS.longG
 rw [ifB _ _ (zr0 S.stage 0)]
 by_cases s0 : S.stage = 0
 ·rw [if_pos s0, if_pos s0]; rfl
 ·rw [if_neg s0, if_neg s0, ifB _ _ (zr0 S.stage 1)]
  by_cases s1 : S.stage = 1
  ·rw [if_pos s1, if_pos s1]; rfl
  ·rw [if_neg s1, if_neg s1, ifB _ _ (zr0 S.stage 6)]
   by_cases s6 : S.stage = 6
   ·rw [if_pos s6, if_pos s6]; rfl
   ·rw [if_neg s6, if_neg s6, ifB _ _ (zr0 S.stage 5)]
    by_cases s5 : S.stage = 5
    ·rw [if_pos s5, if_pos s5]
     repeat rw [vokl]
     rw [zn1, Tr.val_call rfl]
     cases h29 : hasD C.p 29 with
     | false => rfl
     | true =>
      rw [zmx, if_pos rfl]
      repeat rw [vokl]
      rw [to_f (C := C) (S := S) 3, Tr.val_call rfl]
      have hg : Good C n (S.to C 3) := ⟨h.to3 hC s6, fun _ => ⟨hv.1, hv.2, fun h => by rcases h with h | h <;> cases h⟩⟩
      have hnr : zqy (S.to C 3) := by
       refine ⟨rfl, ?_⟩
       rw [hg.1.most]
       show ((0:Nat):Int) < (if (3:Int) = 5 then 0 else C.line)
       rw [if_neg (by decide)]
       omega
      have h1 := zrm hC (by omega) c true hg hL hnr
      dsimp only
      repeat rw [vokl]
      rw [show q5d.f S.method S.target S.minor S.chunked 3 S.lines S.head S.need S.begun S.waits C.p C.line C.fields C.head C.body C.ext C.trailers C.wait C.idle C.chunked C.old S.err C.p (zpt (if (3:Int) = 5 then 0 else C.line)) false false false [] S.fields S.body S.trailers S.out (c.toNat:Int) true = _ from h1, Tr.val_call rfl]
      rfl
    ·rw [if_neg s5, if_neg s5]; rfl
theorem zro {C : Cfg} {n : Nat} {S : PS} (hC : zrb C) (hn : n <= 80000000) (c:UInt8) (counts:Bool) (hG : Good C n S) (hL : zqv C) :
  q5g.f S.method S.target S.minor S.chunked S.stage S.lines S.head S.need S.begun S.waits C.p C.line C.fields C.head C.body C.ext C.trailers C.wait C.idle C.chunked C.old S.err C.p S.most S.pend S.over S.bad S.b S.fields S.body S.trailers S.out (c.toNat:Int) counts = some ((S.step C c counts).tupS C) := by
 have h := hG.1.small hC (show n <= 1000000000 by omega)
 have hh : S.head <= 999999999 := by have := hG.1.head; omega
 unfold q5g.f q5g.t PS.step PS.stepG
 rw [ifB _ _ (zr1 S.err 0)]
 by_cases he : S.err = 0
 ·rw [if_neg (by simp [he]), if_neg (by simp [he]), ifB _ _ (zr0 S.stage 2)]
  obtain ⟨v1, v2, v3⟩ := hG.2 he
  have hbody := zq1 (C := C) c h.body h.out h.need.1 h.need.2
  have hbe : (S.bodyB C c).err = S.err := by
   unfold PS.bodyB
   simp only
   repeat' split
   all_goals rfl
  have hbt : some ((S.bodyB C c).tupS C) = some (((S.bodyB C c).method, (S.bodyB C c).target, (S.bodyB C c).minor, (S.bodyB C c).chunked, (S.bodyB C c).stage, (S.bodyB C c).lines, (S.bodyB C c).head, (S.bodyB C c).need, (S.bodyB C c).begun, (S.bodyB C c).waits, C.p, C.line, C.fields, C.head, C.body, C.ext, C.trailers, C.wait, C.idle, C.chunked, C.old, S.err, C.p, (S.bodyB C c).most, (S.bodyB C c).pend, (S.bodyB C c).over, (S.bodyB C c).bad, (S.bodyB C c).b, (S.bodyB C c).fields, (S.bodyB C c).body, (S.bodyB C c).trailers, (S.bodyB C c).out) : ST) := by
   unfold PS.tupS
   rw [hbe]
  by_cases s2 : S.stage = 2
  ·rw [if_pos s2, if_pos (.inl s2), hbt]
   repeat rw [vokl]
   rw [hbody, Tr.val_call rfl]
   rfl
  ·rw [if_neg s2, ifB _ _ (zr0 S.stage 4)]
   by_cases s4 : S.stage = 4
   ·rw [if_pos s4, if_pos (.inr s4), hbt]
    repeat rw [vokl]
    rw [hbody, Tr.val_call rfl]
    rfl
   ·rw [if_neg s4, if_neg (not_or.2 ⟨s2, s4⟩)]
    have h24 : ¬ (S.stage = 2 ∨ S.stage = 4) := not_or.2 ⟨s2, s4⟩
    cases counts with
    | true =>
     rw [zmx, if_pos rfl]
     repeat rw [vokl]
     rw [zq2 h.head.1 (by omega), Tr.val_call rfl]
     have hcm : (S.mark.counted C).1.head = (S.counted C).1.head ∧ (S.mark.counted C).1.err = (S.counted C).1.err ∧ (S.mark.counted C).2 = (S.counted C).2 := by
      unfold PS.counted PS.mark
      simp only
      repeat' split
      all_goals exact ⟨rfl, rfl, rfl⟩
     have hgU : Good C n (S.mark.counted C).1 := ⟨hG.1.mark.counted hC v2, zrh hG.2 he⟩
     have hok := zrg (C := C) (S := S.mark)
     obtain ⟨hd, er, k, hc⟩ := zqx C S.mark
     rw [← hcm.1, ← hcm.2.1, ← hcm.2.2]
     rw [hc] at hgU hok ⊢
     simp only at hgU hok ⊢
     cases k with
     | false => rfl
     | true =>
      rw [show (!true) = false from rfl, zmy, if_neg (by simp)]
      have heU := hok rfl he
      obtain ⟨u1, u2, u3⟩ := hgU.2 heU
      have hsm : Small C ({ S.mark with head := hd, err := er } : PS) := hgU.1.small hC (by omega)
      repeat rw [vokl]
      have hB := zpz (C := C) (S := ({ S.mark with head := hd, err := er } : PS)) c hsm.most
      have hIr := hgU.1.lineB hC (by omega) c
      have hE := zqa (C := C) (S := (({ S.mark with head := hd, err := er } : PS).lineB C c).1) (zqs hsm c) (fun _ => hL _ (Nat.le_trans zq7 (zqs hsm c).b))
      have h2 := zrl (C := C) (S := ({ S.mark with head := hd, err := er } : PS)) (c := c)
      obtain ⟨pe, ov, ba, bb, k, hr⟩ := zqw C ({ S.mark with head := hd, err := er } : PS) c
      rw [hr] at hB hE hIr h2 ⊢
      simp only at hB hE hIr h2
      have hEi : Good C (n + 1) (PS.ended C { ({ S.mark with head := hd, err := er } : PS) with pend := pe, over := ov, bad := ba, b := bb }) := ⟨hIr.ended hC u1, zrc hC u1 u2 h24⟩
      rw [show q2g.f C.p S.most S.pend S.over S.bad S.b (c.toNat:Int) = _ from hB, Tr.val_call rfl]
      have hEnd : q4p.f S.method S.target S.minor S.chunked S.stage S.lines hd S.need true false C.p C.line C.fields C.body C.ext C.trailers C.chunked C.old er C.p S.most pe ov ba bb S.fields S.body S.trailers S.out = some ((PS.ended C { ({ S.mark with head := hd, err := er } : PS) with pend := pe, over := ov, bad := ba, b := bb }).tup C) := hE
      unfold PS.tailG
      simp only
      rw [ifB _ _ (zr0 k 1)]
      by_cases e1 : k = 1
      ·rw [if_pos e1, if_pos e1]
       repeat rw [vokl]
       rw [hEnd, Tr.val_call rfl]
       rfl
      ·rw [if_neg e1, if_neg e1, ifB _ _ (zr0 k 2)]
       by_cases e2 : k = 2
       ·rw [if_pos e2, if_pos e2]
        have hnr := zrd hC hEi.1 (h2 e2).1 (h2 e2).2
        have hS1 := fun b => zrm hC (by omega) c b hEi hL hnr
        repeat rw [vokl]
        rw [ifB _ _ (zr1 S.stage 3)]
        by_cases s3 : S.stage = 3
        ·rw [if_neg (by simp [s3])]
         repeat rw [vokl]
         rw [hEnd, Tr.val_call rfl]
         have h5 : ¬ (S.stage ≠ 3 ∧ S.stage ≠ 5) := fun h => h.1 s3
         rw [show (if (({ S.mark with head := hd, err := er } : PS).stage ≠ 3 ∧ ({ S.mark with head := hd, err := er } : PS).stage ≠ 5) then decide (((PS.ended C { ({ S.mark with head := hd, err := er } : PS) with pend := pe, over := ov, bad := ba, b := bb }).out.length:Int) > (({ S.mark with head := hd, err := er } : PS).out.length:Int)) else true) = true from if_neg h5]
         dsimp only [PS.tup]
         repeat rw [vokl]
         rw [hS1 true, Tr.val_call rfl]
         rfl
        ·rw [if_pos s3]
         repeat rw [vokl]
         rw [hEnd, Tr.val_call rfl]
         dsimp only [PS.tup]
         rw [ifB _ _ (show (!(S.stage != 5)) = decide (S.stage = 5) by by_cases h : S.stage = 5 <;> simp [h])]
         by_cases s5 : S.stage = 5
         ·rw [if_pos s5]
          have h5 : ¬ (S.stage ≠ 3 ∧ S.stage ≠ 5) := fun h => h.2 s5
          rw [show (if (({ S.mark with head := hd, err := er } : PS).stage ≠ 3 ∧ ({ S.mark with head := hd, err := er } : PS).stage ≠ 5) then decide (((PS.ended C { ({ S.mark with head := hd, err := er } : PS) with pend := pe, over := ov, bad := ba, b := bb }).out.length:Int) > (({ S.mark with head := hd, err := er } : PS).out.length:Int)) else true) = true from if_neg h5]
          repeat rw [vokl]
          rw [hS1 true, Tr.val_call rfl]
          rfl
         ·rw [if_neg s5]
          rw [show (if (({ S.mark with head := hd, err := er } : PS).stage ≠ 3 ∧ ({ S.mark with head := hd, err := er } : PS).stage ≠ 5) then decide (((PS.ended C { ({ S.mark with head := hd, err := er } : PS) with pend := pe, over := ov, bad := ba, b := bb }).out.length:Int) > (({ S.mark with head := hd, err := er } : PS).out.length:Int)) else true) = decide (((PS.ended C { ({ S.mark with head := hd, err := er } : PS) with pend := pe, over := ov, bad := ba, b := bb }).out.length:Int) > (S.out.length:Int)) from if_pos ⟨s3, s5⟩]
          repeat rw [vokl]
          rw [hS1 _, Tr.val_call rfl]
          rfl
       ·rw [if_neg e2, if_neg e2, ifB _ _ (zr0 k 4)]
        by_cases e4 : k = 4
        ·rw [if_pos e4, if_pos e4]
         have hlg := zrn hC (by omega) c hIr ⟨u1, u2⟩ hL
         repeat rw [vokl]
         rw [show q54.f S.method S.target S.minor S.chunked S.stage S.lines hd S.need true false C.p C.line C.fields C.head C.body C.ext C.trailers C.wait C.idle C.chunked C.old er C.p S.most pe ov ba bb S.fields S.body S.trailers S.out (c.toNat:Int) = _ from hlg, Tr.val_call rfl]
         rfl
        ·rw [if_neg e4, if_neg e4, ifB _ _ (zr0 k 3)]
         by_cases e3 : k = 3
         ·rw [if_pos e3, if_pos e3]; rfl
         ·rw [if_neg e3, if_neg e3]; rfl
    | false =>
     rw [zmy, if_neg (by simp)]
     have hgU : Good C n S.mark := ⟨hG.1.mark, hG.2⟩
     have hsm := zqu h
     have u1 : S.mark.lines <= 100 := v1
     have u2 : S.mark.head <= C.head := v2
     repeat rw [vokl]
     have hB := zpz (C := C) (S := S.mark) c hsm.most
     have hIr := hgU.1.lineB hC (by omega) c
     have hE := zqa (C := C) (S := (S.mark.lineB C c).1) (zqs hsm c) (fun _ => hL _ (Nat.le_trans zq7 (zqs hsm c).b))
     have h2 := zrl (C := C) (S := S.mark) (c := c)
     obtain ⟨pe, ov, ba, bb, k, hr⟩ := zqw C S.mark c
     rw [hr] at hB hE hIr h2 ⊢
     simp only at hB hE hIr h2
     have hEi : Good C (n + 1) (PS.ended C { S.mark with pend := pe, over := ov, bad := ba, b := bb }) := ⟨hIr.ended hC u1, zrc hC u1 u2 h24⟩
     rw [show q2g.f C.p S.most S.pend S.over S.bad S.b (c.toNat:Int) = _ from hB, Tr.val_call rfl]
     have hEnd : q4p.f S.method S.target S.minor S.chunked S.stage S.lines S.head S.need true false C.p C.line C.fields C.body C.ext C.trailers C.chunked C.old S.err C.p S.most pe ov ba bb S.fields S.body S.trailers S.out = some ((PS.ended C { S.mark with pend := pe, over := ov, bad := ba, b := bb }).tup C) := hE
     unfold PS.tailG
     simp only
     rw [ifB _ _ (zr0 k 1)]
     by_cases e1 : k = 1
     ·rw [if_pos e1, if_pos e1]
      repeat rw [vokl]
      rw [hEnd, Tr.val_call rfl]
      rfl
     ·rw [if_neg e1, if_neg e1, ifB _ _ (zr0 k 2)]
      by_cases e2 : k = 2
      ·rw [if_pos e2, if_pos e2]
       have hnr := zrd hC hEi.1 (h2 e2).1 (h2 e2).2
       have hS1 := fun b => zrm hC (by omega) c b hEi hL hnr
       repeat rw [vokl]
       rw [ifB _ _ (zr1 S.stage 3)]
       by_cases s3 : S.stage = 3
       ·rw [if_neg (by simp [s3])]
        repeat rw [vokl]
        rw [hEnd, Tr.val_call rfl]
        have h5 : ¬ (S.stage ≠ 3 ∧ S.stage ≠ 5) := fun h => h.1 s3
        rw [show (if (S.mark.stage ≠ 3 ∧ S.mark.stage ≠ 5) then decide (((PS.ended C { S.mark with pend := pe, over := ov, bad := ba, b := bb }).out.length:Int) > (S.mark.out.length:Int)) else true) = true from if_neg h5]
        dsimp only [PS.tup]
        repeat rw [vokl]
        rw [hS1 true, Tr.val_call rfl]
        rfl
       ·rw [if_pos s3]
        repeat rw [vokl]
        rw [hEnd, Tr.val_call rfl]
        dsimp only [PS.tup]
        rw [ifB _ _ (show (!(S.stage != 5)) = decide (S.stage = 5) by by_cases h : S.stage = 5 <;> simp [h])]
        by_cases s5 : S.stage = 5
        ·rw [if_pos s5]
         have h5 : ¬ (S.stage ≠ 3 ∧ S.stage ≠ 5) := fun h => h.2 s5
         rw [show (if (S.mark.stage ≠ 3 ∧ S.mark.stage ≠ 5) then decide (((PS.ended C { S.mark with pend := pe, over := ov, bad := ba, b := bb }).out.length:Int) > (S.mark.out.length:Int)) else true) = true from if_neg h5]
         repeat rw [vokl]
         rw [hS1 true, Tr.val_call rfl]
         rfl
        ·rw [if_neg s5]
         rw [show (if (S.mark.stage ≠ 3 ∧ S.mark.stage ≠ 5) then decide (((PS.ended C { S.mark with pend := pe, over := ov, bad := ba, b := bb }).out.length:Int) > (S.mark.out.length:Int)) else true) = decide (((PS.ended C { S.mark with pend := pe, over := ov, bad := ba, b := bb }).out.length:Int) > (S.out.length:Int)) from if_pos ⟨s3, s5⟩]
         repeat rw [vokl]
         rw [hS1 _, Tr.val_call rfl]
         rfl
      ·rw [if_neg e2, if_neg e2, ifB _ _ (zr0 k 4)]
       by_cases e4 : k = 4
       ·rw [if_pos e4, if_pos e4]
        have hlg := zrn hC (by omega) c hIr ⟨u1, u2⟩ hL
        repeat rw [vokl]
        rw [show q54.f S.method S.target S.minor S.chunked S.stage S.lines S.head S.need true false C.p C.line C.fields C.head C.body C.ext C.trailers C.wait C.idle C.chunked C.old S.err C.p S.most pe ov ba bb S.fields S.body S.trailers S.out (c.toNat:Int) = _ from hlg, Tr.val_call rfl]
        rfl
       ·rw [if_neg e4, if_neg e4, ifB _ _ (zr0 k 3)]
        by_cases e3 : k = 3
        ·rw [if_pos e3, if_pos e3]; rfl
        ·rw [if_neg e3, if_neg e3]; rfl
 ·rw [if_pos he, if_pos he]; rfl
end Pl
end Go.Vx
end
section
set_option maxRecDepth 100000
namespace Go.Vx
namespace Pl
open Go Go.Proofs
def PS.feed (C : Cfg) (S : PS) (l : Bs) : PS := l.foldl (fun S c => S.step C c true) S
theorem zrp (C : Cfg) (S : PS) (c:UInt8) (l : Bs) : S.feed C (c :: l) = (S.step C c true).feed C l := rfl
theorem zrq (C : Cfg) (S : PS) (l m : Bs) : S.feed C (l ++ m) = (S.feed C l).feed C m := List.foldl_append ..
theorem zrr {C : Cfg} (hC : zrb C) : ∀ (l : Bs) (n:Nat) (S : PS), n + 4 * l.length <= 80000000 -> Good C n S -> Good C (n + 4 * l.length) (S.feed C l)
 | [], n, S, hn, h => h
 | c :: l, n, S, hn, h => by
  rw [zrp]
  simp only [List.length_cons] at hn ⊢
  have h1 := zrk hC (by omega) c true h
  exact (zrr hC l (n + 4) _ (by omega) h1).mono (by omega)
theorem zrs {C : Cfg} {n : Nat} {S : PS} {parts : List Bs} {l : Bs} (hC : zrb C) (hL : zqv C) (hn : n + 4 * l.length <= 80000000) (h : Good C n S) :
  q47.L6.f S.method S.target S.minor S.chunked S.stage S.lines S.head S.need S.begun S.waits C.p C.line C.fields C.head C.body C.ext C.trailers C.wait C.idle C.chunked C.old S.err parts C.p S.most S.pend S.over S.bad S.b S.fields S.body S.trailers S.out l (l.length:Int) 0 = some ((S.feed C l).tupS C) := by
 unfold q47.L6.f
 refine (zj4 (A := PS) (a := S) l (fun k T => (T.method, T.target, T.minor, T.chunked, T.stage, T.lines, T.head, T.need, T.begun, T.waits, C.p, C.line, C.fields, C.head, C.body, C.ext, C.trailers, C.wait, C.idle, C.chunked, C.old, T.err, C.p, T.most, T.pend, T.over, T.bad, T.b, T.fields, T.body, T.trailers, T.out, (k:Int))) (fun k T => Good C (n + 4 * k) T) (fun T c => .inl (T.step C c true)) (fun T => T.tupS C) ?_ ?_ (by omega) h rfl).trans ?_
 ·intro k T c hT hk hc
  have hw := wS (k := k) (by omega)
  have hT' : Good C (n + 4 * k) T := hT
  have hb : n + 4 * k <= 80000000 := by omega
  refine ⟨?_, fun a' ha => by cases ha; exact (zrk (n := n + 4 * k) hC (by omega) c true hT').mono (by omega)⟩
  have hs := zro (n := n + 4 * k) hC hb c true hT' hL
  unfold q47.L6.t
  dsimp only
  rw [ifB _ _ (show decide ((k:Int) < (l.length:Int)) = decide (k < l.length) from zjn), if_pos hk, Tr.val_chk (by omega)]
  simp only [Int.toNat_natCast, zj5 hk hc]
  rw [Tr.val_chk hk]
  repeat rw [vokl]
  rw [hs, Tr.val_call rfl]
  dsimp only [PS.tupS]
  repeat rw [vokl]
  rw [hw]
  rfl
 ·intro T _
  unfold q47.L6.t
  dsimp only
  rw [ifB _ _ (show decide ((l.length:Int) < (l.length:Int)) = decide (l.length < l.length) from zjn), if_neg (Nat.lt_irrefl _)]
  repeat rw [vokl]
  rfl
 ·have : ∀ (m : Bs) (T : PS), zj2 (fun T c => (Sum.inl (T.step C c true) : PS ⊕ ST)) (fun T => T.tupS C) T m = (T.feed C m).tupS C := by
   intro m
   induction m with
   | nil => intro T; rfl
   | cons c m ih => intro T; exact ih _
  rw [this]
theorem zrt {C : Cfg} {n : Nat} {S : PS} {parts : List Bs} (hC : zrb C) (hL : zqv C) (hp : parts.length <= 1000000) (hn : n + 4 * parts.flatten.length <= 80000000) (h : Good C n S) :
  q47.L3.f S.method S.target S.minor S.chunked S.stage S.lines S.head S.need S.begun S.waits C.p C.line C.fields C.head C.body C.ext C.trailers C.wait C.idle C.chunked C.old S.err parts C.p S.most S.pend S.over S.bad S.b S.fields S.body S.trailers S.out (parts.length:Int) 0 = some ((S.feed C parts.flatten).tupS C) := by
 unfold q47.L3.f
 refine (zj4 (A := PS) (a := S) parts (fun k T => (T.method, T.target, T.minor, T.chunked, T.stage, T.lines, T.head, T.need, T.begun, T.waits, C.p, C.line, C.fields, C.head, C.body, C.ext, C.trailers, C.wait, C.idle, C.chunked, C.old, T.err, C.p, T.most, T.pend, T.over, T.bad, T.b, T.fields, T.body, T.trailers, T.out, (k:Int))) (fun k T => Good C (n + 4 * (parts.take k).flatten.length) T) (fun T l => .inl (T.feed C l)) (fun T => T.tupS C) ?_ ?_ (by omega) (by simpa using h) rfl).trans ?_
 ·intro k T l hT hk hc
  have hw := wS (k := k) (by omega)
  have hlen : (parts.take (k + 1)).flatten.length = (parts.take k).flatten.length + l.length := by
   rw [List.take_add_one, List.getElem?_eq_getElem hk, hc]
   simp
  have hle : (parts.take (k + 1)).flatten.length <= parts.flatten.length := by
   conv => rhs; rw [← List.take_append_drop (k + 1) parts]
   rw [List.flatten_append, List.length_append]
   omega
  have hT' : Good C (n + 4 * (parts.take k).flatten.length) T := hT
  have hb : n + 4 * (parts.take k).flatten.length + 4 * l.length <= 80000000 := by omega
  refine ⟨?_, fun a' ha => by cases ha; rw [hlen]; exact (zrr hC l _ T hb hT').mono (by omega)⟩
  have hs := zrs (parts := parts) (l := l) hC hL hb hT'
  unfold q47.L3.t
  dsimp only
  rw [ifB _ _ (show decide ((k:Int) < (parts.length:Int)) = decide (k < parts.length) from zjn), if_pos hk, Tr.val_chk (by omega)]
  simp only [Int.toNat_natCast, Nat.zero_add, zj5 hk hc]
  rw [Tr.val_chk hk]
  repeat rw [vokl]
  rw [hs, Tr.val_call rfl]
  dsimp only [PS.tupS]
  repeat rw [vokl]
  rw [hw]
  rfl
 ·intro T _
  unfold q47.L3.t
  dsimp only
  rw [ifB _ _ (show decide ((parts.length:Int) < (parts.length:Int)) = decide (parts.length < parts.length) from zjn), if_neg (Nat.lt_irrefl _)]
  repeat rw [vokl]
  rfl
 ·have : ∀ (m : List Bs) (T : PS), zj2 (fun T l => (Sum.inl (T.feed C l) : PS ⊕ ST)) (fun T => T.tupS C) T m = (T.feed C m.flatten).tupS C := by
   intro m
   induction m with
   | nil => intro T; rfl
   | cons c m ih =>
    intro T
    show zj2 (fun T l => (Sum.inl (T.feed C l) : PS ⊕ ST)) (fun T => T.tupS C) (T.feed C c) m = _
    rw [ih, List.flatten_cons, zrq]
  rw [this]
def PS.taken (S : PS) : PS := { S with out := [] }
theorem Good.taken {C : Cfg} {n : Nat} {S : PS} (h : Good C n S) : Good C n S.taken := ⟨⟨h.1.b, h.1.most, h.1.lines, h.1.head, h.1.need, h.1.stage, h.1.f1, h.1.f2, h.1.t1, h.1.t2, h.1.t3, h.1.body, Nat.zero_le _⟩, h.2⟩
abbrev FT := Bs × Bs × Int × Bool × Int × Int × Int × Int × Bool × Bool × Int × Int × Int × Int × Int × Int × Int × Int × Int × Bool × Bool × Int × List Rec × Int × Int × Bool × Bool × Bool × Bs × Fs × Bs × Fs
def PS.tupF (C : Cfg) (S : PS) : FT := (S.method, S.target, S.minor, S.chunked, S.stage, S.lines, S.head, S.need, S.begun, S.waits, C.p, C.line, C.fields, C.head, C.body, C.ext, C.trailers, C.wait, C.idle, C.chunked, C.old, S.err, S.out, C.p, S.most, S.pend, S.over, S.bad, S.b, S.fields, S.body, S.trailers)
theorem zru {C : Cfg} {n : Nat} {S : PS} {parts : List Bs} (hC : zrb C) (hL : zqv C) (hp : parts.length <= 1000000) (hn : n + 4 * parts.flatten.length <= 80000000) (h : Good C n S) :
  q47.f S.method S.target S.minor S.chunked S.stage S.lines S.head S.need S.begun S.waits C.p C.line C.fields C.head C.body C.ext C.trailers C.wait C.idle C.chunked C.old S.err C.p S.most S.pend S.over S.bad S.b S.fields S.body S.trailers parts = some ((S.taken.feed C parts.flatten).tupF C) := by
 have ho := zrt (parts := parts) hC hL hp hn h.taken
 unfold q47.f q47.t
 repeat rw [vokl]
 rw [show q47.L3.f S.method S.target S.minor S.chunked S.stage S.lines S.head S.need S.begun S.waits C.p C.line C.fields C.head C.body C.ext C.trailers C.wait C.idle C.chunked C.old S.err parts C.p S.most S.pend S.over S.bad S.b S.fields S.body S.trailers [] (parts.length:Int) 0 = _ from ho, Tr.val_call rfl]
 rfl
def PS.new (C : Cfg) : PS :=
 {method := [], target := [], minor := 0, chunked := false, stage := 0, lines := 0, head := 0, need := 0, begun := false, waits := false, err := 0, most := zpt C.line, pend := false, over := false, bad := false, b := [], fields := [], body := [], trailers := [], out := [] }
theorem zrv {C : Cfg} (hC : zrb C) : Good C 0 (PS.new C) := by
 have h2 := hC.head
 refine ⟨⟨by simp [PS.new], ?_, (by decide : (0:Int) <= 0 ∧ (0:Int) <= 101), (by decide : (0:Int) <= 0 ∧ (0:Int) <= 65537), (by decide : (0:Int) <= 0 ∧ (0:Int) <= 1048576), (by decide : (0:Int) <= 0 ∧ (0:Int) <= 6), LB.nil (by decide), fun _ => LB.nil (Int.le_refl _), LB.nil (by decide), fun _ => LB.nil (Int.le_refl _), fun _ => rfl, Nat.zero_le _, Nat.zero_le _⟩, fun _ => ⟨by show (0:Int) <= 100; omega, by show (0:Int) <= C.head; omega, fun h => by rcases h with h | h <;> cases h⟩⟩
 show zpt C.line = _
 rw [hC.most]; rfl
end Pl
end Go.Vx
end
section
set_option maxRecDepth 100000
namespace Go.Vx
namespace Pl
open Go Go.Proofs
theorem zrw {l : List Bs} {n k : Nat} (h : ∀ x ∈ l, x.length <= n) : (l.getD k []).length <= n := by
 rw [List.getD_eq_getElem?_getD]
 by_cases hk : k < l.length
 ·rw [List.getElem?_eq_getElem hk]; exact h _ (List.getElem_mem hk)
 ·rw [List.getElem?_eq_none (by omega)]; simp
theorem zrx (p:Int) (s a z : Bs) : (znz p s a z).length <= s.length := by
 have ht := zr9 ((s.take (s.length - z.length - 1)).drop (a.length + 1))
 unfold znz
 split
 ·simp only [List.length_drop, List.length_take] at ht; omega
 ·simp only [List.length_drop, List.length_take]; omega
theorem zry {p : Int} {s : Bs} {l : List Bs} (h : ∀ x ∈ l, x.length <= s.length) : (zo0 p s l).2.1.length <= s.length := by
 unfold zo0
 split
 ·simp
 ·split
  ·exact zrw h
  ·split
   ·exact zrx _ _ _ _
   ·split
    ·exact zrw h
    ·simp
def okB (line fields head body ext trailers wait idle:Int) : Bool := decide (64 <= line ∧ line <= 4096 ∧ 4 <= fields ∧ fields <= 100 ∧ 256 <= head ∧ head <= 65536 ∧ 16 <= body ∧ body <= 1048576 ∧ 0 <= ext ∧ ext <= 256 ∧ 0 <= trailers ∧ trailers <= 100 ∧ 1 <= wait ∧ wait <= 16 ∧ 1 <= idle ∧ idle <= 1000)
theorem zrz {b : Bool} {a : Tr Bool} {v : Bool} (h : b = true -> a.val = some v) : (Tr.br b a (.ret false)).val = some (b && v) := by
 cases b with
 | true => exact h rfl
 | false => rfl
theorem zs0 (line fields head body ext trailers wait idle:Int) : q00.f line fields head body ext trailers wait idle = some (okB line fields head body ext trailers wait idle) := by
 unfold q00.f q00.t
 refine (zrz fun _ => zrz fun _ => zrz fun _ => zrz fun _ => zrz fun _ => zrz fun _ => zrz fun _ => zrz fun _ => zrz fun _ => zrz fun _ => zrz fun _ => zrz fun _ => zrz fun _ => zrz fun _ => zrz fun _ => rfl).trans ?_
 congr 1
 unfold okB
 simp only [← Bool.decide_and, ge_iff_le]
def Cfg.right (C : Cfg) : Prop := okB C.line C.fields C.head C.body C.ext C.trailers C.wait C.idle = true ∧ C.p.fdiv (2 ^ 30) = 0
instance (C : Cfg) : Decidable C.right := inferInstanceAs (Decidable (_ ∧ _))
theorem Cfg.right.ok {C : Cfg} (h : C.right) : zrb C := by
 have h1 := h.1
 unfold okB at h1
 have := of_decide_eq_true h1
 constructor <;> omega
abbrev NT := Bs × Bs × Int × Bool × Int × Int × Int × Int × Bool × Bool × Int × Int × Bool × Bool × Bool × Bs × Fs × Bs × Fs × List Rec
def PS.tupN (S : PS) : NT := (S.method, S.target, S.minor, S.chunked, S.stage, S.lines, S.head, S.need, S.begun, S.waits, S.err, S.most, S.pend, S.over, S.bad, S.b, S.fields, S.body, S.trailers, S.out)
def PS.new' (C : Cfg) : PS := if C.right then PS.new C else { PS.new C with err := 20 }
theorem zs1 (C : Cfg) : q3y.f C.p C.line C.fields C.head C.body C.ext C.trailers C.wait C.idle = some (PS.new' C).tupN := by
 unfold q3y.f q3y.t PS.new'
 rw [zs0, Tr.val_call rfl]
 by_cases hr : C.right
 ·have hp : (C.p.fdiv (2 ^ 30) == 0) = true := by simpa using hr.2
  rw [if_pos hr, hr.1, show (!true) = false from rfl, zmy, show q5s.f C.p = some (C.p.fdiv (2 ^ 30) == 0) from rfl, Tr.val_call rfl, hp]
  rfl
 ·rw [if_neg hr]
  by_cases hb : okB C.line C.fields C.head C.body C.ext C.trailers C.wait C.idle = true
  ·have hp : (C.p.fdiv (2 ^ 30) == 0) = false := by
    have : ¬ C.p.fdiv (2 ^ 30) = 0 := fun hp => hr ⟨hb, hp⟩
    simpa using this
   rw [hb, show (!true) = false from rfl, zmy, show q5s.f C.p = some (C.p.fdiv (2 ^ 30) == 0) from rfl, Tr.val_call rfl, hp]
   rfl
  ·have hb : okB C.line C.fields C.head C.body C.ext C.trailers C.wait C.idle = false := by simpa using hb
   rw [hb]
   rfl
theorem zs2 (b : Bs) (f : Fs) (y : Bs) (t : Fs) (o : List Rec) : q44.f b f y t o = some () := rfl
def PS.waiting (S : PS) : Bool := decide (S.err = 0) && S.waits
def PS.clean (S : PS) : Bool := decide (S.err = 0) && !S.begun
theorem zs3 (S : PS) (b : Bs) (f : Fs) (y : Bs) (t : Fs) (o : List Rec) : q4d.f S.waits S.err b f y t o = some S.waiting := by
 unfold q4d.f q4d.t PS.waiting
 rw [zr0]
 cases decide (S.err = 0) <;> rfl
theorem zs4 (S : PS) (b : Bs) (f : Fs) (y : Bs) (t : Fs) (o : List Rec) : q41.f S.begun S.err b f y t o = some S.clean := by
 unfold q41.f q41.t PS.clean
 rw [zr0]
 cases decide (S.err = 0) <;> rfl
def zs5 (l : Fs) : Nat := (l.map fun f => f.1.length + f.2.length).sum
theorem zs6 {ρ : Type} (r : Nat -> ρ) (l : Fs) (n:Nat) : zj2 (fun n f => (Sum.inl (n + (f.1.length + f.2.length)) : Nat ⊕ ρ)) r n l = r (n + zs5 l) := by
 induction l generalizing n with
 | nil => rfl
 | cons c l ih =>
  show zj2 _ r (n + (c.1.length + c.2.length)) l = _
  rw [ih]
  unfold zs5
  rw [List.map_cons, List.sum_cons]
  congr 1
  omega
theorem zs7 {l : Fs} (h : FitF l) : q6g.f l = some (zs5 l:Int) := by
 have hL : q6g.L3.f l 0 (l.length:Int) 0 = some (zs5 l:Int) := by
  unfold q6g.L3.f
  refine (zj4 (A := Nat) (a := 0) l (fun k n => ((n:Int), (k:Int))) (fun k n => n <= 2000000 * k) (fun n f => .inl (n + (f.1.length + f.2.length))) (fun n => (n:Int)) ?_ ?_ (by have := h.1; omega) (Nat.le_refl _) rfl).trans ?_
  ·intro k n c hi hk hc
   have hf := h.2 c (hc ▸ List.getElem_mem hk)
   have hl := h.1
   have hw := wS (k := k) (by omega)
   refine ⟨?_, fun a' ha => by cases ha; omega⟩
   unfold q6g.L3.t
   dsimp only
   rw [ifB _ _ (show decide ((k:Int) < (l.length:Int)) = decide (k < l.length) from zjn), if_pos hk, Tr.val_chk (by omega)]
   simp only [Int.toNat_natCast, Nat.zero_add, zj5 hk hc]
   rw [Tr.val_chk hk, vokl, hw, w64 (n := ((c.1.length:Int) + (c.2.length:Int))) (by omega) (by omega), w64 (by omega) (by omega)]
   show some _ = some _
   simp only [Int.natCast_add]
  ·intro n _
   unfold q6g.L3.t
   dsimp only
   rw [ifB _ _ (show decide ((l.length:Int) < (l.length:Int)) = decide (l.length < l.length) from zjn), if_neg (Nat.lt_irrefl _)]
   rfl
  ·rw [zs6]; simp
 unfold q6g.f q6g.t
 rw [vokl, hL]
 rfl
end Pl
end Go.Vx
end
section
set_option maxRecDepth 100000
namespace Go.Vx
namespace Pl
open Go Go.Proofs
theorem zs8 {α β : Type} {o : Option β} {k : β -> Tr α} {y : β} {r : Option α} (h : o = some y) (hk : (k y).val = r) : (Tr.call o k).val = r := by subst h; exact hk
theorem zs9 {α : Type} {p : Prop} [Decidable p] {a : Tr α} {r : Option α} (h : p) (hk : a.val = r) : (Tr.chk p a).val = r := by rw [Tr.val_chk h]; exact hk
theorem go_t {α : Type} {b : Bool} {x y : Tr α} {r : Option α} (h : b = true) (hk : x.val = r) : (Tr.br b x y).val = r := by subst h; exact hk
theorem go_f {α : Type} {b : Bool} {x y : Tr α} {r : Option α} (h : b = false) (hk : y.val = r) : (Tr.br b x y).val = r := by subst h; exact hk
theorem zsa {σ ρ : Type} {body : σ -> Tr (σ ⊕ ρ)} (N:Nat) (st : Nat -> σ) (r : ρ) (hs : ∀ k, k < N -> (body (st k)).val = some (.inl (st (k + 1)))) (he : (body (st N)).val = some (.inr r)) (hN : N < 1125899906842624) {s0 : σ} (h0 : s0 = st 0) : Loop body s0 = some r := by
 refine (zj4 (A := Unit) (a := ()) (List.replicate N ()) (fun k _ => st k) (fun _ _ => True) (fun _ _ => .inl ()) (fun _ => r) ?_ ?_ (by simpa using hN) trivial h0).trans ?_
 ·intro k a c _ hk _
  exact ⟨hs k (by simpa using hk), fun _ _ => trivial⟩
 ·intro _ _
  simpa using he
 ·have : ∀ (m : List Unit), zj2 (fun (_ : Unit) (_ : Unit) => (Sum.inl () : Unit ⊕ ρ)) (fun _ => r) () m = r := by
   intro m
   induction m with
   | nil => rfl
   | cons c m ih => exact ih
  rw [this]
def zsb (p:Int) : Cfg := ⟨p, 1024, 32, 8192, 65536, 32, 8, 4, 20, true, true⟩
end Pl
end Go.Vx
end
section
set_option maxRecDepth 100000
namespace Go.Vx
namespace Pl
open Go Go.Proofs
def PS.line (S : PS) : Bs := if S.over = true then [] else S.b
def PS.inc (S : PS) : Nat := if S.stage = 3 ∨ S.stage = 5 then 0 else 1
structure Ready (C : Cfg) (S : PS) : Prop where
 err : S.err = 0
 stage : ¬ (S.stage = 2 ∨ S.stage = 4)
 bad : S.bad = false
 pend : S.pend = false
def PS.add (S : PS) (l : Bs) : PS := { S with begun := true, waits := false, head := S.head + ((S.inc * l.length:Nat):Int), over := false, b := S.line ++ l }
def plain (l : Bs) : Prop := ∀ c ∈ l, c ≠ 13 ∧ c ≠ 10
instance (l : Bs) : Decidable (plain l) := inferInstanceAs (Decidable (∀ c ∈ l, c ≠ 13 ∧ c ≠ 10))
theorem z3y (S : PS) (l m : Bs) : (S.add l).add m = S.add (l ++ m) := by
 unfold PS.add PS.inc PS.line
 simp only [List.append_assoc, List.length_append, Nat.mul_add, Int.natCast_add, Bool.false_eq_true, if_false, Int.add_assoc]
end Pl
end Go.Vx
end
section
set_option maxRecDepth 100000
namespace Go.Vx
namespace Pl
open Go Go.Proofs
def PS.hd (S : PS) (lines head:Int) (fs : Fs) (e:Int) (b : Bs) : PS := { S with stage := 1, begun := true, waits := false, lines := lines, head := head, fields := fs, err := e, pend := false, over := true, bad := false, b := b }
end Pl
end Go.Vx
end
section
set_option maxRecDepth 100000
namespace Go.Vx
namespace Pl
open Go Go.Proofs
theorem zsc (n b0 b1 b2 b3:Nat) (hn : 1 <= n) (h0 : 128 <= b0) (q0 : b0 < 256) :
  (Lib.decodeN n b0 b1 b2 b3).1 ≠ 32 ∧ (Lib.decodeN n b0 b1 b2 b3).1 ≠ 9 ∧ (Lib.decodeN n b0 b1 b2 b3).2 <= n ∧ (2 <= (Lib.decodeN n b0 b1 b2 b3).2 -> 128 <= b1) ∧ (3 <= (Lib.decodeN n b0 b1 b2 b3).2 -> 128 <= b2) ∧ (4 <= (Lib.decodeN n b0 b1 b2 b3).2 -> 128 <= b3) ∧ (Lib.decodeN n b0 b1 b2 b3).2 <= 4 := by
 unfold Lib.decodeN
 repeat' split
 all_goals (simp only; omega)
def zsd : Bs -> Bs -> List Bs
 | cur, [] => if cur = [] then [] else [cur]
 | cur, c :: l => if zjd c = true then (if cur = [] then zsd [] l else cur :: zsd [] l) else zsd (cur ++ [c]) l
def zse (l : Bs) : List Bs := zsd [] l
theorem zsf : ∀ (k:Nat) (cur l : Bs), k <= l.length -> (∀ j, j < k -> zjd (l.getD j 0) = false) -> zsd cur l = zsd (cur ++ l.take k) (l.drop k)
 | 0, cur, l, _, _ => by simp
 | k + 1, cur, [], h, _ => by simp at h
 | k + 1, cur, c :: l, h, hz => by
  have h0 : zjd c = false := hz 0 (by omega)
  rw [zsd, h0, if_neg (by simp), zsf k (cur ++ [c]) l (by simpa using h) (fun j hj => by have := hz (j + 1) (by omega); simpa using this)]
  simp
theorem zsg {c : UInt8} (h : 128 <= c.toNat) : zjd c = false := by
 have := zj7 (p := fun c => decide (c.toNat < 128) || !zjd c) (by decide +kernel) c
 have h2 : decide (c.toNat < 128) = false := by rw [decide_eq_false_iff_not]; omega
 simpa [h2] using this
theorem zsh (c:UInt8) : ziv c.toNat = zjd c := by
 have := zj7 (p := fun c => ziv c.toNat == zjd c) (by decide +kernel) c
 simpa using this
theorem zsi {n : Nat} (h1 : n ≠ 32) (h2 : n ≠ 9) : ziv n = false := by
 unfold ziv
 simp [h1, h2]
theorem zsj (s : ByteArray) (pos:Nat) (h : pos < s.size) :
  pos + (Utf8.decode s pos).2 <= s.size ∧ ((ziv (Utf8.decode s pos).1 = true ∧ (Utf8.decode s pos).2 = 1 ∧ zjd (s.data.toList.getD pos 0) = true) ∨ (ziv (Utf8.decode s pos).1 = false ∧ ∀ j, j < (Utf8.decode s pos).2 -> zjd (s.data.toList.getD (pos + j) 0) = false)) := by
 rw [Lib.decode_at]
 simp only [← Lib.getD_get!']
 generalize hb0 : s.data.toList.getD pos 0 = c0
 generalize hb1 : s.data.toList.getD (pos + 1) 0 = c1
 generalize hb2 : s.data.toList.getD (pos + 2) 0 = c2
 generalize hb3 : s.data.toList.getD (pos + 3) 0 = c3
 have q0 := UInt8.toNat_lt c0
 by_cases hlo : c0.toNat < 128
 ·have e : Lib.decodeN (s.size - pos) c0.toNat c1.toNat c2.toNat c3.toNat = (c0.toNat, 1) := by unfold Lib.decodeN; rw [if_pos hlo]
  rw [e]
  refine ⟨by simp only; omega, ?_⟩
  simp only [zsh]
  cases hc : zjd c0 with
  | true => exact .inl (by simp)
  | false =>
   refine .inr ⟨by simp, fun j hj => ?_⟩
   obtain rfl : j = 0 := by omega
   rw [Nat.add_zero, hb0, hc]
 ·obtain ⟨f1, f2, f3, f4, f5, f6, f7⟩ := zsc (s.size - pos) c0.toNat c1.toNat c2.toNat c3.toNat (by omega) (by omega) q0
  refine ⟨by omega, .inr ⟨zsi f1 f2, fun j hj => ?_⟩⟩
  match j, hj with
  | 0, _ => rw [Nat.add_zero, hb0]; exact zsg (by omega)
  | 1, hj => rw [hb1]; exact zsg (f4 (by omega))
  | 2, hj => rw [hb2]; exact zsg (f5 (by omega))
  | 3, hj => rw [hb3]; exact zsg (f6 (by omega))
  | j + 4, hj => omega
theorem zsk (s : ByteArray) : s.data.toList.length = s.size := by simp
theorem zsl (s : ByteArray) : ∀ (f pos:Nat) (st : Option Nat) (acc : List (Nat × Nat)), s.size <= pos + f -> pos <= s.size -> (∀ a, st = some a -> a < pos) ->
  (Lib.closeSpans s (Lib.spansFromP ziv s f pos st acc)).map (fun p => Lib.pieceU s.data.toList p.1 p.2) = acc.map (fun p => Lib.pieceU s.data.toList p.1 p.2) ++ zsd (Lib.openPiece s.data.toList st pos) (s.data.toList.drop pos) := by
 have hend : ∀ (st : Option Nat) (acc : List (Nat × Nat)), (∀ a, st = some a -> a < s.size) -> (Lib.closeSpans s (acc, st)).map (fun p => Lib.pieceU s.data.toList p.1 p.2) = acc.map (fun p => Lib.pieceU s.data.toList p.1 p.2) ++ zsd (Lib.openPiece s.data.toList st s.size) (s.data.toList.drop s.size) := by
  intro st acc hst
  have hd : s.data.toList.drop s.size = [] := List.drop_eq_nil_of_le (by rw [zsk]; exact Nat.le_refl _)
  rw [hd]
  cases st with
  | none => simp [Lib.closeSpans, Lib.openPiece, zsd]
  | some a =>
   have := Lib.pieceU_ne s.data.toList a s.size (hst a rfl) (by rw [zsk]; exact Nat.le_refl _)
   simp [Lib.closeSpans, Lib.openPiece, zsd, this]
 intro f
 induction f with
 | zero =>
  intro pos st acc h hp hst
  obtain rfl : pos = s.size := by omega
  exact hend st acc hst
 | succ f ih =>
  intro pos st acc h hp hst
  by_cases hlt : pos < s.size
  ·have hw := Lib.width_pos s pos
   obtain ⟨hwn, hcase⟩ := zsj s pos hlt
   rw [Lib.spansFromP.eq_def]
   simp only [if_pos hlt]
   rcases hcase with ⟨hb, h1, hbl⟩ | ⟨hb, hbl⟩
   ·rw [hb, if_pos rfl, h1]
    have hd : s.data.toList.drop pos = s.data.toList.getD pos 0 :: s.data.toList.drop (pos + 1) := by
     rw [List.getD_eq_getElem?_getD, List.getElem?_eq_getElem (by rw [zsk]; exact hlt)]
     exact List.drop_eq_getElem_cons (by rw [zsk]; exact hlt)
    rw [hd, zsd.eq_2, hbl, if_pos rfl]
    cases st with
    | none => 
     simp only
     rw [ih (pos + 1) none acc (by omega) (by omega) (fun a h => by cases h)]
     simp [Lib.openPiece]
    | some a =>
     have hpn := Lib.pieceU_ne s.data.toList a pos (hst a rfl) (by rw [zsk]; omega)
     simp only
     rw [ih (pos + 1) none (acc ++ [(a, pos)]) (by omega) (by omega) (fun a h => by cases h)]
     simp [Lib.openPiece, hpn]
   ·rw [hb, if_neg (by simp)]
    have hk : (Utf8.decode s pos).2 <= (s.data.toList.drop pos).length := by rw [List.length_drop, zsk]; omega
    have hsk := zsf (Utf8.decode s pos).2 (Lib.openPiece s.data.toList st pos) (s.data.toList.drop pos) hk (fun j hj => by rw [Lib.getD_dropU]; exact hbl j hj)
    rw [hsk, List.drop_drop]
    cases st with
    | none =>
     simp only
     rw [ih (pos + (Utf8.decode s pos).2) (some pos) acc (by omega) hwn (fun a h => by cases h; omega)]
     have e : ([] : Bs) ++ (s.data.toList.drop pos).take (Utf8.decode s pos).2 = Lib.pieceU s.data.toList pos (pos + (Utf8.decode s pos).2) := by
      unfold Lib.pieceU
      rw [List.nil_append, Nat.add_sub_cancel_left]
     simp only [Lib.openPiece]
     rw [e]
    | some a =>
     simp only
     rw [ih (pos + (Utf8.decode s pos).2) (some a) acc (by omega) hwn (fun b h => by cases h; have := hst a rfl; omega)]
     simp only [Lib.openPiece]
     rw [Lib.pieceU_grow _ _ _ _ (Nat.le_of_lt (hst a rfl))]
  ·obtain rfl : pos = s.size := by omega
   rw [Lib.spansFromP_end _ _ _ _ _ _ hlt]
   exact hend st acc hst
theorem zsm (l : Bs) : q9p.fieldsOf l = zse l := by
 have h := zsl ⟨l.toArray⟩ (ByteArray.size ⟨l.toArray⟩) 0 none [] (by omega) (Nat.zero_le _) (fun a h => by cases h)
 unfold q9p.fieldsOf Lib.goFieldsP Lib.spansOfP
 rw [List.map_map]
 refine Eq.trans ?_ (h.trans ?_)
 ·congr 1
  funext p
  simp [Lib.pieceU]
 ·simp [Lib.openPiece, zse]
theorem zsn : ∀ (l cur : Bs), ((zsd cur l).map List.length).sum + (zsd cur l).length <= cur.length + l.length + 1
 | [], cur => by
  rw [zsd]
  split <;> simp
 | c :: l, cur => by
  rw [zsd]
  split
  ·have := zsn l []
   split
   ·simp only [List.length_nil, List.length_cons] at this ⊢; omega
   ·simp only [List.map_cons, List.sum_cons, List.length_nil, List.length_cons] at this ⊢; omega
  ·have := zsn l (cur ++ [c])
   simp only [List.length_append, List.length_cons, List.length_nil] at this ⊢
   omega
theorem zso {l : List Bs} {x : Bs} (h : x ∈ l) : x.length <= (l.map List.length).sum := by
 induction l with
 | nil => simp at h
 | cons a l ih =>
  rw [List.map_cons, List.sum_cons]
  rcases List.mem_cons.1 h with rfl | h
  ·omega
  ·have := ih h; omega
theorem zsp (s : Bs) : ∀ x ∈ zse s, x.length <= s.length := fun x hx => by
 have h1 := zsn s []
 have h2 := zso hx
 have h3 : 0 < (zse s).length := List.length_pos_iff.2 (List.ne_nil_of_mem hx)
 unfold zse at h2 h3
 simp only [List.length_nil] at h1
 omega
theorem zsq (s : Bs) : zo2 s (zse s) := by
 intro h
 have ht := zsn s []
 unfold zse at h ⊢
 generalize zsd [] s = l at h ht ⊢
 match l, h with
 | a :: m, h =>
  rcases List.eq_nil_or_concat m with rfl | ⟨k, z, rfl⟩
  ·simp at h
  ·simp only [List.concat_eq_append] at h ht ⊢
   have e1 : (a :: (k ++ [z])).getD ((a :: (k ++ [z])).length - 1) [] = z := by
    simp [List.getD_eq_getElem?_getD]
   rw [e1]
   simp only [List.getD_cons_zero]
   simp only [List.map_cons, List.map_append, List.map_nil, List.sum_cons, List.sum_append, List.sum_nil, List.length_cons, List.length_append, List.length_nil] at ht h
   omega
theorem zsr (C : Cfg) : zqv C := fun s hs => by
 have ht := zr9 s
 refine ⟨fun h3 => ⟨by omega, fun _ => ?_, ?_, ?_⟩, ?_⟩
 ·rw [zsm]; exact zsq _
 ·rw [zsm]; exact zsp _
 ·rw [zsm]
  have := zsn (trim s) []
  unfold zse
  simp only [List.length_nil] at this
  omega
 ·have : (zo1 s C.p).2.1.length <= s.length := by
   unfold zo1 znx znw
   cases h3 : hasD C.p 3 with
   | true =>
    simp only [if_true]
    rw [zsm]
    have := zry (p := C.p) (s := trim s) (l := zse (trim s)) (zsp _)
    omega
   | false =>
    simp only [Bool.false_eq_true, if_false]
    exact zry fun x hx => zlu s.length (Nat.le_refl _) x hx
  omega
end Pl
end Go.Vx
end
section
set_option maxRecDepth 100000
namespace Go.Vx
namespace Pl
open Go Go.Proofs
def PS.tl (S : PS) (lines head:Int) (ts : Fs) (e:Int) (ov:Bool) (b : Bs) : PS := { S with stage := 6, begun := true, waits := false, lines := lines, head := head, trailers := ts, err := e, pend := false, over := ov, bad := false, b := b }
end Pl
end Go.Vx
end
section
set_option maxRecDepth 100000
namespace Go.Vx
namespace Pl
open Go Go.Proofs
theorem zss : ∀ k : Nat, k < 30 -> hasD 0 (k:Int) = false := by decide +kernel
theorem zst {α : Type} {p : α -> Bool} {l : List α} (h : ∀ c ∈ l, p c = false) : l.dropWhile p = l := by
 cases l with
 | nil => rfl
 | cons c l => rw [List.dropWhile_cons_of_neg (by rw [h c (List.mem_cons_self ..)]; simp)]
theorem zsu {α : Type} {p : α -> Bool} {l : List α} (h : ∀ c ∈ l, p c = false) : zjz p l = l := by
 unfold zjz
 rw [zst fun c hc => h c (List.mem_reverse.1 hc), List.reverse_reverse]
theorem zsv {p : UInt8 -> Bool} {l : Bs} (h : ∀ c ∈ l, p c = false) : zkc p l = l := by
 unfold zkc
 rw [zst h, zsu h]
theorem zsw {l : Bs} (h : ∀ c ∈ l, zjd c = false) : trim l = l := zsv h
theorem zsx (c:UInt8) (h : zjb c = true) : zjd c = false := by
 have := zj7 (p := fun c => !zjb c || !zjd c) (by decide +kernel) c
 simpa [h] using this
theorem zsy (b:Nat) (c:UInt8) (h : zk5 b c = true) : zjd c = false ∧ c ≠ 120 ∧ c ≠ 88 ∧ c ≠ 43 ∧ c ≠ 44 := by
 have h2 : zjg c = true := by unfold zk5 at h; simp only [Bool.and_eq_true] at h; exact h.1
 have := zj7 (p := fun c => !zjg c || (!zjd c && c != 120 && c != 88 && c != 43 && c != 44)) (by decide +kernel) c
 simpa [h2, and_assoc] using this
theorem zsz {base : Nat} {most : Int} {s : Bs} (h : (zne (numS base most s)).2 = 0) : s ≠ [] ∧ s.all (zk5 base) = true := by
 unfold numS at h
 split at h
 ·simp [zne] at h
 ·rename_i hn
  exact ⟨fun e => hn (.inl e), by
   cases hs : s.all (zk5 base) with
   | true => rfl
   | false => exact absurd (.inr hs) hn⟩
theorem zt0 {s : Bs} {p body ext n : Int} (h : znf s 0 body ext = (n, 0)) : znf s p body ext = (n, 0) := by
 unfold znf at h ⊢
 split at h
 ·simp at h
 ·split at h
  ·simp at h
  ·rename_i h1 h2
   rw [if_neg h1, if_neg h2]
   rw [show hasD 0 28 = false from zss 28 (by decide)] at h
   have e0 : znd 0 (before 59 s) = before 59 s := by
    unfold znd
    rw [show hasD 0 27 = false from zss 27 (by decide), if_neg (by decide)]
   rw [if_neg (by decide), e0] at h
   obtain ⟨g1, g2⟩ := zsz (congrArg Prod.snd h)
   have hall : ∀ c ∈ before 59 s, zk5 16 c = true := List.all_eq_true.1 g2
   have ht : trim (before 59 s) = before 59 s := zsw fun c hc => (zsy 16 c (hall c hc)).1
   rw [ht, ite_self]
   have e1 : znd p (before 59 s) = before 59 s := by
    unfold znd
    have a1 : pre2 48 120 (before 59 s) = false := by
     unfold pre2
     split
     ·rename_i x y l hl
      have := (zsy 16 y (hall y (by rw [hl]; simp))).2.1
      simp [this]
     ·rfl
    have a2 : pre2 48 88 (before 59 s) = false := by
     unfold pre2
     split
     ·rename_i x y l hl
      have := (zsy 16 y (hall y (by rw [hl]; simp))).2.2.1
      simp [this]
     ·rfl
    rw [a1, a2]
    simp
   rw [e1]
   exact h
theorem zt1 {s : Bs} {p : Int} (h : (zn4 s 0).2.2.2 = 0) : zn4 s p = zn4 s 0 ∧ zna s p = false := by
 have n0 : zn3 0 (cutC 58 s).1 = (cutC 58 s).1 := by
  unfold zn3
  rw [show hasD 0 9 = false from zss 9 (by decide), if_neg (by decide)]
 unfold zn4 at h
 rw [n0, show hasD 0 10 = false from zss 10 (by decide), show hasD 0 14 = false from zss 14 (by decide)] at h
 split at h
 ·unfold outS at h
  rw [show hasD 0 11 = false from zss 11 (by decide)] at h
  simp at h
 ·rename_i hc
  split at h
  ·unfold outS at h
   rw [show hasD 0 12 = false from zss 12 (by decide)] at h
   simp at h
  ·rename_i hne
   split at h
   ·rename_i hok
    simp only [Bool.false_or, Bool.and_eq_true] at hok
    obtain ⟨k1, k2⟩ := hok
    have htok : ∀ c ∈ (cutC 58 s).1, zjb c = true := List.all_eq_true.1 k1
    have np : zn3 p (cutC 58 s).1 = (cutC 58 s).1 := by
     unfold zn3
     rw [zsu fun c hc => zsx c (htok c hc), ite_self]
    have hcon : s.contains 58 = true := by
     unfold cutC at hc
     cases hh : s.contains 58 with
     | true => rfl
     | false => rw [hh] at hc; simp at hc
    constructor
    ·unfold zn4
     rw [n0, np, if_neg hc, if_neg hne, if_pos (by rw [k1, k2]; simp), if_neg hc, if_neg hne, if_pos (by rw [k1, k2]; simp)]
    ·have e1 : (cutC 58 s).1 = before 58 s := by unfold cutC; rw [if_pos hcon]
     rw [e1] at hne htok
     have hs := zkk hcon
     unfold zna
     cases hb : before 58 s with
     | nil => exact absurd hb hne
     | cons c l =>
      rw [hb, List.cons_append] at hs
      have hcb := zsx c (htok c (by rw [hb]; exact List.mem_cons_self ..))
      rw [hs]
      simp [hcb]
   ·simp at h
theorem zt2 {p : Int} {l : Fs} {s : Bs} {e : Int} (h : (zpu 0 l s e).2 = 0) : zpu p l s e = zpu 0 l s e := by
 have h0 : ¬ (l ≠ [] ∧ zna s 0 = true) := by
  intro q
  have := q.2
  unfold zna at this
  rw [show hasD 0 13 = false from zss 13 (by decide)] at this
  simp at this
 unfold zpu at h ⊢
 rw [if_neg h0] at h ⊢
 have hf : (zn4 s 0).2.2.2 = 0 := by
  split at h <;> exact h
 obtain ⟨e1, e2⟩ := zt1 (p := p) hf
 rw [if_neg (fun q => by rw [e2] at q; exact absurd q.2 (by decide)), e1]
theorem zt3 {s : Bs} (h : (zke 32 s).length = 3) : ∃ a b v, zke 32 s = [a, b, v] ∧ s = a ++ 32 :: (b ++ 32 :: v) := by
 by_cases h1 : s.contains 32 = true
 ·rw [zkp h1] at h ⊢
  by_cases h2 : (after 32 s).contains 32 = true
  ·rw [zkp h2] at h ⊢
   by_cases h3 : (after 32 (after 32 s)).contains 32 = true
   ·rw [zkp h3] at h
    have := zkq 32 (after 32 (after 32 (after 32 s)))
    cases hh : zke 32 (after 32 (after 32 (after 32 s))) with
    | nil => exact absurd hh this
    | cons x l => rw [hh] at h; simp at h
   ·rw [zko (by simpa using h3)]
    refine ⟨_, _, _, rfl, ?_⟩
    rw [← zkk h2]
    exact zkk h1
  ·rw [zko (by simpa using h2)] at h
   simp at h
 ·rw [zko (by simpa using h1)] at h
  simp at h
theorem zt4 {a b v : Bs} (ha : a ≠ []) (hb : b ≠ []) (hv : v ≠ []) (na : ∀ c ∈ a, zjd c = false) (nb : ∀ c ∈ b, zjd c = false) (nv : ∀ c ∈ v, zjd c = false) :
  trim (a ++ 32 :: (b ++ 32 :: v)) = a ++ 32 :: (b ++ 32 :: v) ∧ zse (a ++ 32 :: (b ++ 32 :: v)) = [a, b, v] := by
 have hgo : ∀ (x r : Bs), x ≠ [] -> (∀ c ∈ x, zjd c = false) -> zsd [] (x ++ 32 :: r) = x :: zsd [] r := by
  intro x r hx nx
  rw [zsf x.length [] (x ++ 32 :: r) (by simp) (fun j hj => by
   rw [List.getD_eq_getElem?_getD, List.getElem?_append_left hj, List.getElem?_eq_getElem hj]
   exact nx _ (List.getElem_mem hj))]
  rw [List.nil_append, List.take_left, List.drop_left, zsd, show zjd 32 = true from rfl, if_pos rfl, if_neg hx]
 constructor
 ·unfold trim zkc
  have e1 : (a ++ 32 :: (b ++ 32 :: v)).dropWhile zjd = a ++ 32 :: (b ++ 32 :: v) := by
   cases a with
   | nil => exact absurd rfl ha
   | cons c a => rw [List.cons_append, List.dropWhile_cons_of_neg (by rw [na c (List.mem_cons_self ..)]; simp)]
  rw [e1]
  rcases List.eq_nil_or_concat v with rfl | ⟨w, d, rfl⟩
  ·exact absurd rfl hv
  ·have : a ++ 32 :: (b ++ 32 :: w.concat d) = (a ++ 32 :: (b ++ 32 :: w)) ++ [d] := by simp
   rw [this, zk0, if_neg (by rw [nv d (by simp)]; simp)]
 ·unfold zse
  rw [hgo a _ ha na, hgo b _ hb nb]
  have := zsf v.length [] v (Nat.le_refl _) (fun j hj => by
   rw [List.getD_eq_getElem?_getD, List.getElem?_eq_getElem hj]
   exact nv _ (List.getElem_mem hj))
  rw [this, List.drop_length, List.nil_append, List.take_length, zsd, if_neg hv]
theorem zt5 (c:UInt8) (h : zjc c = true) : zjd c = false := by
 have := zj7 (p := fun c => !zjc c || !zjd c) (by decide +kernel) c
 simpa [h] using this
theorem zt6 (c:UInt8) (h : zja c = true) : zjd c = false := by
 have := zj7 (p := fun c => !zja c || !zjd c) (by decide +kernel) c
 simpa [h] using this
theorem zt7 {v : Bs} {p : Int} {old : Bool} (hv : v ≠ []) (h : (zoe v 0 old).2 = true) : zoe v p old = zoe v 0 old ∧ ∀ c ∈ v, zjd c = false := by
 unfold zoe at h
 rw [if_neg hv, show hasD 0 5 = false from zss 5 (by decide), show hasD 0 4 = false from zss 4 (by decide)] at h
 split at h
 ·simp at h
 ·rename_i h8
  split at h
  ·simp at h
  ·rename_i h7
   have hl : v.length = 8 := Classical.byContradiction fun q => h8 (.inl q)
   have hd : zja (v.getD 7 0) = true := by
    cases hh : zja (v.getD 7 0) with
    | true => rfl
    | false => exact absurd (.inr hh) h8
   have ht : v.take 7 = zod := Classical.byContradiction fun q => h7 ⟨q, by simp⟩
   have e : ∀ q, zoe v q old = if v.getD 7 0 = 48 then (0, old) else if v.getD 7 0 = 49 then (1, true) else (1, hasD q 4) := by
    intro q
    unfold zoe
    rw [if_neg hv, if_neg h8, if_neg (fun r => r.1 ht)]
   constructor
   ·rw [e p, e 0]
    split
    ·rfl
    ·split
     ·rfl
     ·rename_i q1 q2
      rw [if_neg q1, if_neg q2] at h
      cases h
   ·intro c hc
    rw [← List.take_append_drop 7 v] at hc
    rcases List.mem_append.1 hc with hc | hc
    ·rw [ht] at hc
     exact (by decide : ∀ c ∈ zod, zjd c = false) c hc
    ·have hd7 : v.drop 7 = [v.getD 7 0] := by
      rw [List.drop_eq_getElem_cons (by omega), List.drop_eq_nil_of_le (by omega), List.getD_eq_getElem?_getD, List.getElem?_eq_getElem (by omega)]
      rfl
     rw [hd7] at hc
     simp only [List.mem_singleton] at hc
     subst hc
     exact zt6 _ hd
theorem zt8 {s m t : Bs} {p mi : Int} {old : Bool} (h : zog s 0 old = (m, t, mi, 0)) : zog s p old = (m, t, mi, 0) := by
 have h3 : hasD 0 3 = false := zss 3 (by decide)
 have h7 : hasD 0 7 = false := zss 7 (by decide)
 have h8 : hasD 0 8 = false := zss 8 (by decide)
 have h6 : hasD 0 6 = false := zss 6 (by decide)
 have e0 : zo1 s 0 = zo0 0 s (zke 32 s) := by
  unfold zo1 znx znw
  rw [h3]
  rfl
 have hp : (zo0 0 s (zke 32 s)).2.2.2 = 0 := by
  unfold zog at h
  rw [e0] at h
  split at h
  ·simp at h
  ·rename_i q; exact Classical.byContradiction fun e => q e
 have hlen : (zke 32 s).any (· == []) = false ∧ (zke 32 s).length = 3 := by
  unfold zo0 at hp
  rw [h7, h6] at hp
  split at hp
  ·simp at hp
  ·rename_i ha
   split at hp
   ·rename_i hl
    refine ⟨?_, hl⟩
    cases hh : (zke 32 s).any (· == []) with
    | false => rfl
    | true => exact absurd hh ha
   ·simp at hp
 obtain ⟨hany, hl3⟩ := hlen
 obtain ⟨a, b, v, hs, hsp⟩ := zt3 hl3
 rw [hs] at hany hl3 e0
 have hne : a ≠ [] ∧ b ≠ [] ∧ v ≠ [] := by
  simp only [List.any_cons, List.any_nil, Bool.or_false, Bool.or_eq_false_iff, beq_eq_false_iff_ne] at hany
  exact ⟨hany.1, hany.2.1, hany.2.2⟩
 have part3 : ∀ q x, zo0 q x [a, b, v] = (a, b, v, 0) := by
  intro q x
  unfold zo0
  rw [if_neg (by rw [hany]; simp), if_pos (show [a, b, v].length = 3 from rfl)]
  rfl
 unfold zog at h
 rw [e0, part3] at h
 simp only at h
 rw [if_neg (by simp)] at h
 split at h
 ·simp at h
 ·rename_i hc
  split at h
  ·simp at h
  ·rename_i hm
   have htok : a.all zjb = true := by
    cases hh : a.all zjb with
    | true => rfl
    | false => exact absurd (.inr (.inr (.inl hh))) hc
   have hgo : zoa a b 0 = true := by
    cases hh : zoa a b 0 with
    | true => rfl
    | false => exact absurd (.inr (.inr (.inr hh))) hc
   have hmi : (zoe v 0 old).2 = true := by
    cases hh : (zoe v 0 old).2 with
    | true => rfl
    | false => exact absurd hh hm
   obtain ⟨me, nv⟩ := zt7 (p := p) hne.2.2 hmi
   unfold zoa at hgo
   rw [h7, h8] at hgo
   simp only [Bool.and_eq_true, Bool.false_or] at hgo
   have hvis : ∀ c ∈ b, zjc c = true := by
    intro c hc'
    have := List.all_eq_true.1 hgo.1.1 c hc'
    unfold zo9 at this
    simpa using this
   have na : ∀ c ∈ a, zjd c = false := fun c hc' => zsx c (List.all_eq_true.1 htok c hc')
   have nb : ∀ c ∈ b, zjd c = false := fun c hc' => zt5 c (hvis c hc')
   have ep : zo1 s p = (a, b, v, 0) := by
    unfold zo1 znx znw
    cases hp3 : hasD p 3 with
    | true =>
     simp only [if_true]
     rw [zsm, hsp, (zt4 hne.1 hne.2.1 hne.2.2 na nb nv).1, (zt4 hne.1 hne.2.1 hne.2.2 na nb nv).2]
     exact part3 _ _
    | false =>
     simp only [Bool.false_eq_true, if_false]
     rw [hs]
     exact part3 _ _
   have hgp : zoa a b p = true := by
    unfold zoa
    have h1 : b.all (zo9 (hasD p 7) (hasD p 8)) = true := List.all_eq_true.2 fun c hc' => by unfold zo9; rw [hvis c hc']; simp
    rw [h1, hgo.1.2, hgo.2]
    simp
   unfold zog
   rw [ep]
   simp only
   rw [if_neg (by simp), if_neg (fun q => by
    rcases q with q | q | q | q
    ·exact hc (.inl q)
    ·exact hc (.inr (.inl q))
    ·exact hc (.inr (.inr (.inl q)))
    ·rw [hgp] at q; cases q), me, if_neg hm]
   exact h
end Pl
end Go.Vx
end
section
set_option maxRecDepth 100000
namespace Go.Vx
namespace Pl
open Go Go.Proofs
theorem zt9 (c:UInt8) (h : zot.contains (zjh c) = true) : zjd c = false ∧ zou c = false := by
 have := zj7 (p := fun c => !zot.contains (zjh c) || (!zjd c && !zou c)) (by decide +kernel) c
 simp only [h, Bool.not_true, Bool.false_or] at this
 simpa using this
theorem zta {l : List Bs} {a : Bs} (h1 : l.length = 1) (h2 : l.any (· == a) = true) : l = [a] := by
 match l, h1 with
 | [x], _ => simpa using h2
theorem ztb {v : List Bs} {p : Int} (h : zox v 0 = true) : zox v p = true := by
 unfold zox zow at h ⊢
 rw [show hasD 0 18 = false from zss 18 (by decide), Bool.or_false] at h
 simp only [Bool.and_eq_true, decide_eq_true_eq] at h
 have e := zta h.1.2 h.2.1
 have hl1 : (zkf v).length = 1 := by have := h.1.2; simpa using this
 obtain ⟨s, hs⟩ : ∃ s, zkf v = [s] := by
  match hv : zkf v, hl1 with
  | [x], _ => exact ⟨x, rfl⟩
 rw [hs] at e ⊢
 simp only [List.map_cons, List.map_nil, List.cons.injEq, and_true] at e
 unfold zov at e
 rw [show hasD 0 17 = false from zss 17 (by decide), if_neg (by decide)] at e
 have hb : ∀ c ∈ s, zou c = false := by
  intro c hc
  refine (zt9 c ?_).2
  have : zjh c ∈ zkb s := List.mem_map_of_mem hc
  rw [e] at this
  simpa using this
 have e2 : zov p s = zot := by
  unfold zov
  rw [zsv hb, ite_self, e]
 simp only [List.map_cons, List.map_nil, e2]
 cases hasD p 18 <;> decide
theorem ztc {v : List Bs} {p body n : Int} (h : zpa v 0 body = (n, 0)) : zpa v p body = (n, 0) := by
 unfold zpa at h ⊢
 rw [show hasD 0 24 = false from zss 24 (by decide), if_neg (by decide)] at h
 unfold zp9 at h
 split at h
 ·rename_i h0
  have : v = [] := List.length_eq_zero_iff.1 h0
  subst this
  rw [show (if hasD p 24 = true then zkf [] else ([] : List Bs)) = [] by cases hasD p 24 <;> rfl]
  exact h
 ·rename_i h0
  unfold zp6 at h
  rw [show hasD 0 24 = false from zss 24 (by decide), show hasD 0 25 = false from zss 25 (by decide), show hasD 0 26 = false from zss 26 (by decide)] at h
  split at h
  ·rename_i h1
   have h1 : v.length = 1 := by
    rcases h1 with q | q | q
    ·exact q
    ·exact absurd q.2 (by decide)
    ·exact absurd q (by decide)
   obtain ⟨s, hs⟩ : ∃ s, v = [s] := by
    match v, h1 with
    | [x], _ => exact ⟨x, rfl⟩
   subst hs
   unfold zp8 at h
   simp only [List.getD_cons_zero] at h
   have p0 : zp7 0 s = s := by
    unfold zp7
    rw [show hasD 0 23 = false from zss 23 (by decide), if_neg (by simp)]
   rw [p0] at h
   obtain ⟨g1, g2⟩ := zsz (congrArg Prod.snd h)
   have hall : ∀ c ∈ s, zk5 10 c = true := List.all_eq_true.1 g2
   have hl : zkf [s] = [s] := by
    unfold zkf
    have hc : s.contains 44 = false := by
     cases hh : s.contains 44 with
     | false => rfl
     | true => exact absurd rfl (zsy 10 44 (hall 44 (by simpa using hh))).2.2.2.2
    simp [zko hc, zsw fun c hc' => (zsy 10 c (hall c hc')).1]
   rw [hl, ite_self]
   unfold zp9 zp6
   rw [if_neg (by simp), if_pos (.inl rfl)]
   unfold zp8
   simp only [List.getD_cons_zero]
   have pp : zp7 p s = s := by
    unfold zp7
    have : zmd 43 s = false := by
     unfold zmd
     split
     ·rename_i x l _
      have := (zsy 10 x (hall x (by simp))).2.2.2.1
      simpa using this
     ·rfl
    rw [this, if_neg (by simp)]
   rw [pp]
   exact h
  ·split at h
   ·rename_i q; exact absurd q (by decide)
   ·unfold zp8 at h
    simp at h
theorem ztd {b0 bp c : Bool} (hb : b0 = true -> bp = true) (h : (if b0 = false then (400:Int) else if c = true then 400 else 0) = 0) : (if bp = false then (400:Int) else if c = true then 400 else 0) = 0 := by
 cases b0 with
 | false => simp at h
 | true => rw [hb rfl]; simpa using h
theorem zte {l : List Bs} {p minor : Int} (h : zoq 0 minor l = 0) : zoq p minor l = 0 := by
 unfold zoq at h ⊢
 refine ztd ?_ h
 rw [show hasD 0 15 = false from zss 15 (by decide), show hasD 0 16 = false from zss 16 (by decide)]
 intro q
 by_cases h0 : l.length = 0
 ·rw [if_pos h0] at q ⊢
  rw [Bool.or_false] at q
  rw [q]; rfl
 ·rw [if_neg h0] at q ⊢
  by_cases h1 : l.length = 1
  ·rw [if_pos h1]
  ·rw [if_neg h1] at q; cases q
theorem ztf {l : Fs} {p body minor k n : Int} {ch : Bool} (h : zpj l 0 body ch minor = (k, n, 0)) : zpj l p body ch minor = (k, n, 0) := by
 unfold zpj at h ⊢
 have fx : zph (zpa (zkg l zpf) 0 body) = (k, n, 0) -> zph (zpa (zkg l zpf) p body) = (k, n, 0) := by
  intro q
  have : ∃ m, zpa (zkg l zpf) 0 body = (m, 0) := by
   unfold zph at q
   split at q
   ·rename_i z
    exact absurd (congrArg (fun x => x.2.2) q) z
   ·rename_i z
    exact ⟨(zpa (zkg l zpf) 0 body).1, Prod.ext rfl (Classical.byContradiction z)⟩
  obtain ⟨m, hm⟩ := this
  rw [ztc hm, ← hm]
  exact q
 split at h
 ·rename_i z
  exact absurd (congrArg (fun x => x.2.2) h) z
 ·rename_i z
  have hz : zor l 0 minor = 0 := Classical.byContradiction z
  have hp : zor l p minor = 0 := zte hz
  rw [if_neg (by simp [hp])]
  split at h
  ·rename_i ht
   rw [if_pos ht]
   unfold zpi at h ⊢
   rw [show hasD 0 19 = false from zss 19 (by decide), show hasD 0 20 = false from zss 20 (by decide), show hasD 0 21 = false from zss 21 (by decide), show hasD 0 22 = false from zss 22 (by decide)] at h
   generalize decide (minor = 0) = m0 at h ⊢
   generalize decide ((zkg l zpf).length = 0) = cl0 at h ⊢
   cases m0 with
   | true => simp at h
   | false =>
    cases hc : zox (zkg l zpe) 0 with
    | false => rw [hc] at h; simp at h
    | true =>
     rw [hc] at h
     rw [ztb hc]
     cases cl0 with
     | false => simp at h
     | true =>
      cases ch with
      | false => simp at h
      | true => simpa using h
  ·rename_i ht
   rw [if_neg ht]
   exact fx h
def Cfg.by (C : Cfg) (p:Int) : Cfg := { C with p := p }
theorem ztg {C : Cfg} {S : PS} {c : UInt8} {p : Int} (h : (S.lineB (C.by 0) c).2 < 2) : S.lineB (C.by p) c = S.lineB (C.by 0) c := by
 unfold PS.lineB at h ⊢
 rw [show hasD (C.by 0).p 2 = false from zss 2 (by decide), show hasD (C.by 0).p 1 = false from zss 1 (by decide)] at h ⊢
 split
 ·rfl
 ·rename_i h1
  rw [if_neg h1] at h
  split
  ·rename_i h2
   rw [if_pos h2] at h
   split
   ·rfl
   ·rename_i h3
    rw [if_neg h3, if_neg (by decide)] at h
    exact absurd h (by simp)
  ·rename_i h2
   rw [if_neg h2] at h
   split
   ·rfl
   ·rename_i h3
    rw [if_neg h3] at h
    split
    ·rename_i h4
     rw [if_pos h4, if_neg (by decide)] at h
     exact absurd h (by simp)
    ·rfl
theorem zth {C : Cfg} {S : PS} {c : UInt8} : (S.lineB (C.by 0) c).2 = 0 ∨ (S.lineB (C.by 0) c).2 = 1 ∨ (S.lineB (C.by 0) c).2 = 3 ∨ (S.lineB (C.by 0) c).2 = 4 := by
 unfold PS.lineB
 rw [show hasD (C.by 0).p 2 = false from zss 2 (by decide), show hasD (C.by 0).p 1 = false from zss 1 (by decide)]
 repeat' split
 all_goals first
  | exact absurd (by assumption) (by decide : ¬ (false = true))
  | simp
theorem zti {s : Bs} {p : Int} {old : Bool} (h : (zog s 0 old).2.2.2 = 0) : zog s p old = zog s 0 old := by
 have e : zog s 0 old = ((zog s 0 old).1, (zog s 0 old).2.1, (zog s 0 old).2.2.1, 0) := Prod.ext rfl (Prod.ext rfl (Prod.ext rfl h))
 rw [zt8 e, ← e]
theorem ztj {s : Bs} {p body ext : Int} (h : (znf s 0 body ext).2 = 0) : znf s p body ext = znf s 0 body ext := by
 have e : znf s 0 body ext = ((znf s 0 body ext).1, 0) := Prod.ext rfl h
 rw [zt0 e, ← e]
theorem ztk {l : Fs} {p body minor : Int} {ch : Bool} (h : (zpj l 0 body ch minor).2.2 = 0) : zpj l p body ch minor = zpj l 0 body ch minor := by
 have e : zpj l 0 body ch minor = ((zpj l 0 body ch minor).1, (zpj l 0 body ch minor).2.1, 0) := Prod.ext rfl (Prod.ext rfl h)
 rw [ztf e, ← e]
theorem ztl {C : Cfg} {S : PS} {p : Int} {s : Bs} (he : (S.request (C.by 0) s).err = 0) : S.request (C.by p) s = S.request (C.by 0) s := by
 unfold PS.request at he ⊢
 have hq : ¬ (s = [] ∧ hasD (C.by 0).p 0 = true) := fun q => absurd q.2 (by rw [show hasD (C.by 0).p 0 = false from zss 0 (by decide)]; decide)
 rw [if_neg hq] at he ⊢
 have he' : (zog s 0 C.old).2.2.2 = 0 := he
 have hne : s ≠ [] := by
  intro q
  subst q
  generalize C.old = o at he'
  revert he'
  cases o <;> decide +kernel
 rw [if_neg fun q => hne q.1]
 have := zti (p := p) he'
 rw [show zog s (C.by p).p (C.by p).old = zog s (C.by 0).p (C.by 0).old from this]
theorem ztm {C : Cfg} {S : PS} {p : Int} {s : Bs} (he : (S.fieldF (C.by 0) s).err = 0) : S.fieldF (C.by p) s = S.fieldF (C.by 0) s := by
 unfold PS.fieldF at he ⊢
 by_cases h : S.lines + 1 > C.fields
 ·rw [if_pos (show S.lines + 1 > (C.by p).fields from h), if_pos (show S.lines + 1 > (C.by 0).fields from h)]
 ·rw [if_neg (show ¬ S.lines + 1 > (C.by 0).fields from h)] at he ⊢
  rw [if_neg (show ¬ S.lines + 1 > (C.by p).fields from h)]
  rw [show zpu (C.by p).p S.fields s S.err = zpu (C.by 0).p S.fields s S.err from zt2 he]
theorem ztn {C : Cfg} {S : PS} {p : Int} {s : Bs} (he : (S.fieldT (C.by 0) s).err = 0) : S.fieldT (C.by p) s = S.fieldT (C.by 0) s := by
 unfold PS.fieldT at he ⊢
 by_cases h : S.lines + 1 > C.trailers
 ·rw [if_pos (show S.lines + 1 > (C.by p).trailers from h), if_pos (show S.lines + 1 > (C.by 0).trailers from h)]
 ·rw [if_neg (show ¬ S.lines + 1 > (C.by 0).trailers from h)] at he ⊢
  rw [if_neg (show ¬ S.lines + 1 > (C.by p).trailers from h)]
  rw [show zpu (C.by p).p S.trailers s S.err = zpu (C.by 0).p S.trailers s S.err from zt2 he]
theorem zto {C : Cfg} {S : PS} {p : Int} {s : Bs} (he : (S.chunk (C.by 0) s).err = 0) : S.chunk (C.by p) s = S.chunk (C.by 0) s := by
 unfold PS.chunk at he ⊢
 simp only at he ⊢
 have hz : (znf s (C.by 0).p (C.by 0).body (C.by 0).ext).2 = 0 := by
  refine Classical.byContradiction fun q => ?_
  rw [if_pos q] at he
  exact q he
 rw [show znf s (C.by p).p (C.by p).body (C.by p).ext = znf s (C.by 0).p (C.by 0).body (C.by 0).ext from ztj hz]
 rfl
theorem ztp {C : Cfg} {S : PS} {p : Int} (he : (S.framed (C.by 0)).err = 0) : S.framed (C.by p) = S.framed (C.by 0) := by
 unfold PS.framed at he ⊢
 simp only at he ⊢
 have hz : (zpj S.fields (C.by 0).p (C.by 0).body (C.by 0).chunked S.minor).2.2 = 0 := by
  refine Classical.byContradiction fun q => ?_
  rw [if_pos q] at he
  exact q he
 rw [show zpj S.fields (C.by p).p (C.by p).body (C.by p).chunked S.minor = zpj S.fields (C.by 0).p (C.by 0).body (C.by 0).chunked S.minor from ztk hz]
 rfl
theorem ztq {C : Cfg} {S : PS} {p : Int} (he : (S.ended (C.by 0)).err = 0) : S.ended (C.by p) = S.ended (C.by 0) := by
 unfold PS.ended at he ⊢
 by_cases h0 : S.stage = 0
 ·rw [if_pos h0] at he
  rw [if_pos h0, if_pos h0]
  exact ztl he
 ·rw [if_neg h0] at he
  rw [if_neg h0, if_neg h0]
  by_cases h1 : S.stage = 1
  ·rw [if_pos h1] at he
   rw [if_pos h1, if_pos h1]
   by_cases h2 : S.lineS = []
   ·rw [if_pos h2] at he
    rw [if_pos h2, if_pos h2]
    exact ztp he
   ·rw [if_neg h2] at he
    rw [if_neg h2, if_neg h2]
    exact ztm he
  ·rw [if_neg h1] at he
   rw [if_neg h1, if_neg h1]
   by_cases h3 : S.stage = 3
   ·rw [if_pos h3] at he
    rw [if_pos h3, if_pos h3]
    exact zto he
   ·rw [if_neg h3] at he
    rw [if_neg h3, if_neg h3]
    by_cases h5 : S.stage = 5
    ·rw [if_pos h5, if_pos h5]; rfl
    ·rw [if_neg h5] at he
     rw [if_neg h5, if_neg h5]
     by_cases h6 : S.stage = 6
     ·rw [if_pos h6] at he
      rw [if_pos h6, if_pos h6]
      by_cases h2 : S.lineS = []
      ·rw [if_pos h2, if_pos h2]; rfl
      ·rw [if_neg h2] at he
       rw [if_neg h2, if_neg h2]
       exact ztn he
     ·rw [if_neg h6, if_neg h6]
theorem ztr {rec : PS -> UInt8 -> Bool -> PS} {C : Cfg} {S : PS} {c : UInt8} : (S.longG rec (C.by 0) c).err ≠ 0 := by
 unfold PS.longG
 rw [show hasD (C.by 0).p 29 = false from zss 29 (by decide)]
 repeat' split
 all_goals first
  | exact absurd (by assumption) Bool.false_ne_true
  | simp [PS.fail]
theorem zts {r0 rp : PS -> UInt8 -> Bool -> PS} {C : Cfg} {S : PS} {c : UInt8} {p : Int} (he : (S.tailG r0 (C.by 0) c (S.lineB (C.by 0) c)).err = 0) :
  S.tailG rp (C.by p) c (S.lineB (C.by p) c) = S.tailG r0 (C.by 0) c (S.lineB (C.by 0) c) := by
 rcases zth (C := C) (S := S) (c := c) with h | h | h | h
 ·rw [ztg (p := p) (by rw [h]; decide)]
  unfold PS.tailG
  simp [h]
 ·rw [ztg (p := p) (by rw [h]; decide)]
  unfold PS.tailG at he ⊢
  rw [if_pos h] at he
  rw [if_pos h, if_pos h]
  exact ztq he
 ·exfalso
  unfold PS.tailG at he
  rw [if_neg (by rw [h]; decide), if_neg (by rw [h]; decide), if_neg (by rw [h]; decide), if_pos h] at he
  exact absurd he (by simp [PS.fail])
 ·exfalso
  unfold PS.tailG at he
  rw [if_neg (by rw [h]; decide), if_neg (by rw [h]; decide), if_pos h] at he
  exact ztr he
theorem ztt {C : Cfg} {S : PS} {c : UInt8} {p : Int} {k : Bool} (he : (S.step (C.by 0) c k).err = 0) : S.step (C.by p) c k = S.step (C.by 0) c k := by
 unfold PS.step PS.stepG at he ⊢
 by_cases h0 : S.err ≠ 0
 ·rw [if_pos h0, if_pos h0]
 ·rw [if_neg h0] at he
  rw [if_neg h0, if_neg h0]
  by_cases h1 : S.stage = 2 ∨ S.stage = 4
  ·rw [if_pos h1, if_pos h1]; rfl
  ·rw [if_neg h1] at he
   rw [if_neg h1, if_neg h1]
   by_cases h2 : k = true
   ·rw [if_pos h2] at he
    rw [if_pos h2, if_pos h2]
    rw [show S.mark.counted (C.by p) = S.mark.counted (C.by 0) from rfl]
    by_cases h3 : (S.mark.counted (C.by 0)).2 = false
    ·rw [if_pos h3, if_pos h3]
    ·rw [if_neg h3] at he
     rw [if_neg h3, if_neg h3]
     exact zts he
   ·rw [if_neg h2] at he
    rw [if_neg h2, if_neg h2]
    exact zts he
end Pl
end Go.Vx
end
section
set_option maxRecDepth 100000
namespace Go.Vx
namespace Pl
open Go Go.Proofs
def Has {α : Type} (t : Tr α) (P : α -> Prop) : Prop := ∃ y, t.val = some y ∧ P y
theorem ztu {α : Type} {y : α} {P : α -> Prop} (h : P y) : Has (.ret y) P := ⟨y, rfl, h⟩
theorem ztv {α : Type} {p : Prop} [Decidable p] {a : Tr α} {P : α -> Prop} (h : p) (hk : Has a P) : Has (.chk p a) P := by
 obtain ⟨y, h1, h2⟩ := hk
 exact ⟨y, zs9 h h1, h2⟩
theorem ztw {α : Type} {n : Nat} {a : Tr α} {P : α -> Prop} (hk : Has a P) : Has (.okl n a) P := hk
theorem ztx {α : Type} {b : Bool} {x y : Tr α} {P : α -> Prop} (h1 : b = true -> Has x P) (h2 : b = false -> Has y P) : Has (.br b x y) P := by
 cases b with
 | true => exact h1 rfl
 | false => exact h2 rfl
theorem zty {α β : Type} {o : Option β} {k : β -> Tr α} {Q : β -> Prop} {P : α -> Prop} (h : ∃ y, o = some y ∧ Q y) (hk : ∀ y, Q y -> Has (k y) P) : Has (.call o k) P := by
 obtain ⟨y, h1, h2⟩ := h
 obtain ⟨z, h3, h4⟩ := hk y h2
 exact ⟨z, zs8 h1 h3, h4⟩
theorem ztz {l : List Bs} {n i : Nat} (h : ∀ x ∈ l, x.length <= n) : (l.getD i []).length <= n := by
 rw [List.getD_eq_getElem?_getD]
 cases e : l[i]? with
 | none => simp
 | some x => exact h x (List.mem_of_getElem? e)
theorem tm {b : Int} (n:Int) (h : 0 <= b) (hn : 0 < n) : 0 <= b.tmod n ∧ b.tmod n < n := ⟨Int.tmod_nonneg n h, Int.tmod_lt_of_pos b hn⟩
theorem zu0 (n:Int) : 0 <= IntKind.u8.wrap n ∧ IntKind.u8.wrap n < 256 := by
 unfold IntKind.wrap
 simp only [IntKind.signed, IntKind.bits]
 simp
 omega
theorem zu1 {a b : Int} (ha : 0 <= a) (hb : 0 <= b) : ∃ y, q7y.f a b = some y ∧ y.length <= 200 := by
 have m1 := tm 12 hb (by decide)
 have m2 := tm 8 ha (by decide)
 have m3 := tm 4 hb (by decide)
 have m4 := tm 6 ha (by decide)
 have t1 : (q7y.tb0_1 b).length <= 40 := ztz (by decide)
 have t2 : (q7y.tb0_2 a).length <= 40 := ztz (by decide)
 have t3 : (q7y.tb0_3 a).length <= 40 := ztz (by decide)
 have t4 : (q7y.tb0_4 b).length <= 40 := ztz (by decide)
 have k1 : Has (q7y.k1 a b) fun y => y.length <= 200 := by
  unfold q7y.k1
  generalize q7y.tb0_1 b = T1 at t1 ⊢
  generalize q7y.tb0_2 a = T2 at t2 ⊢
  generalize q7y.tb0_3 a = T3 at t3 ⊢
  generalize q7y.tb0_4 b = T4 at t4 ⊢
  repeat' (with_reducible first | apply ztx <;> intro _ | refine ztv ?_ ?_ | apply ztw | apply ztu | (first | (simp only [List.length_append, List.length_cons, List.length_nil]; omega) | omega | exact ztz (by decide)))
 have k2 : Has (q7y.k2 a b) fun y => y.length <= 200 := by
  unfold q7y.k2
  generalize q7y.tb0_1 b = T1 at t1 ⊢
  generalize q7y.tb0_2 a = T2 at t2 ⊢
  generalize q7y.tb0_3 a = T3 at t3 ⊢
  generalize q7y.tb0_4 b = T4 at t4 ⊢
  repeat' (with_reducible first | apply ztx <;> intro _ | refine ztv ?_ ?_ | apply ztw | apply ztu | (first | (simp only [List.length_append, List.length_cons, List.length_nil]; omega) | omega | exact ztz (by decide)))
 have k3 : Has (q7y.k3 a b) fun y => y.length <= 200 := by
  unfold q7y.k3
  generalize q7y.tb0_1 b = T1 at t1 ⊢
  generalize q7y.tb0_2 a = T2 at t2 ⊢
  generalize q7y.tb0_3 a = T3 at t3 ⊢
  generalize q7y.tb0_4 b = T4 at t4 ⊢
  repeat' (with_reducible first | apply ztx <;> intro _ | refine ztv ?_ ?_ | apply ztw | apply ztu | (first | (simp only [List.length_append, List.length_cons, List.length_nil]; omega) | omega | exact ztz (by decide)))
 show Has (q7y.t a b) _
 unfold q7y.t
 repeat' (with_reducible first | exact k1 | exact k2 | exact k3 | apply ztx <;> intro _ | refine ztv ?_ ?_ | (first | (simp only [List.length_append, List.length_cons, List.length_nil]; omega) | omega | exact ztz (by decide)))
theorem zu2 {k : Int} (hk : 0 <= k) : ∃ y, q7s.f k = some y ∧ y.length <= 4 := by
 have m3 := tm 4 hk (by decide)
 show Has (q7s.t k) _
 unfold q7s.t
 repeat' (with_reducible first | apply ztx <;> intro _ | refine ztv ?_ ?_ | apply ztw | apply ztu | (first | (simp only [List.length_append, List.length_cons, List.length_nil]; omega) | omega | exact ztz (by decide)))
theorem zu3 {a b : Int} (hb : 0 <= b ∧ b < 256) : ∃ y, q7v.f a b = some y ∧ y.length <= 60 := by
 have m1 := tm 16 hb.1 (by decide)
 have m2 := tm 22 hb.1 (by decide)
 show Has (q7v.t a b) _
 unfold q7v.t
 rw [w64 (n := b) (by omega) (by omega)]
 repeat' (with_reducible first | apply ztx <;> intro _ | refine ztv ?_ ?_ | apply ztw | apply ztu | (first | (simp only [List.length_append, List.length_cons, List.length_nil]; omega) | omega | exact ztz (by decide)))
def zu4 (o : Option Bs) : Bool := match o with
 | some y => decide (y.length <= 3)
 | none => false
theorem zu5 {o : Option Bs} (h : zu4 o = true) : ∃ y, o = some y ∧ y.length <= 3 := by
 cases o with
 | none => cases h
 | some y => exact ⟨y, rfl, by simpa [zu4] using h⟩
theorem zu6 : ((List.range 27).all fun m => zu4 (q6j.f (m:Int)) && zu4 (q6m.f (m:Int))) = true := by decide +kernel
theorem zu7 {m : Nat} (h : m <= 26) : (∃ y, q6j.f (m:Int) = some y ∧ y.length <= 3) ∧ ∃ y, q6m.f (m:Int) = some y ∧ y.length <= 3 := by
 have := List.all_eq_true.1 zu6 m (List.mem_range.2 (by omega))
 simp only [Bool.and_eq_true] at this
 exact ⟨zu5 this.1, zu5 this.2⟩
theorem zu8 (l : Bs) {i : Int} (hi : 0 <= i) : ∃ y, q84.f l i = some y ∧ 0 <= y ∧ y < 256 := by
 show Has (q84.t l i) _
 unfold q84.t
 refine ztx (fun h => ztw (ztu (zu0 _))) (fun h => ?_)
 have hl : ¬ ((l.length:Int) = 0) := by simpa using h
 have m1 := tm (l.length:Int) hi (by omega)
 refine ztv hl (ztv m1 (ztv (by omega) (ztv hl (ztw (ztu (zu0 _))))))
theorem zu9 {kind n k : Int} (hn : 0 <= n) (hk : 0 <= k) : ∃ y, q7m.f kind n k = some y ∧ y.1.length <= 200 ∧ y.2.length <= 200 := by
 have m1 := tm 20 hn (by decide)
 have m2 := tm 5 hn (by decide)
 have t1 : (q7m.tb1_1 n).length <= 40 := ztz (by decide)
 show Has (q7m.t kind n k) _
 unfold q7m.t
 generalize q7m.tb1_1 n = T1 at t1 ⊢
 generalize hT : List.drop (↑(0:Nat):Int).toNat (List.take (n.tmod (20:Int)).toNat [(48:UInt8), (49:UInt8), (50:UInt8), (51:UInt8), (52:UInt8), (53:UInt8), (54:UInt8), (55:UInt8), (56:UInt8), (57:UInt8), (97:UInt8), (98:UInt8), (99:UInt8), (100:UInt8), (101:UInt8), (102:UInt8), (103:UInt8), (104:UInt8), (105:UInt8), (106:UInt8), (107:UInt8), (108:UInt8), (109:UInt8), (110:UInt8), (111:UInt8), (112:UInt8)]) = T
 have hTl : T.length <= 26 := by
  rw [← hT, List.length_drop, List.length_take]
  simp only [List.length_cons, List.length_nil]
  omega
 clear hT
 have hp := zu7 hTl
 have he := zu2 hk
 have m9 := tm 9 hk (by decide)
 have m4 := tm 4 (zu0 (n.tdiv 5)).1 (by decide)
 have tab : ∀ i : Nat, (([[51], [48, 120, 51], [32, 51], [51, 59, 97, 61, 98], [51, 32, 59, 120], [48, 51], [51, 9], [103], [51, 59] ++ T ++ T] : List (List UInt8)).getD i []).length <= 60 := by
  intro i
  refine ztz ?_
  intro x hx
  simp only [List.mem_cons, List.not_mem_nil, or_false] at hx
  rcases hx with h | h | h | h | h | h | h | h | h <;> subst h <;> simp only [List.length_append, List.length_cons, List.length_nil] <;> omega
 generalize hG : (([[51], [48, 120, 51], [32, 51], [51, 59, 97, 61, 98], [51, 32, 59, 120], [48, 51], [51, 9], [103], [51, 59] ++ T ++ T] : List (List UInt8)).getD (((0:Nat) + (k.tmod (9:Int)).toNat) * (1:Nat)) []) = G
 generalize hH : (([[], [84, 58, 32, 117, 13, 10], [98, 97, 100, 13, 10], [84, 58, 32, 117, 13, 10, 32, 119, 13, 10]] : List (List UInt8)).getD (((0:Nat) + ((IntKind.u8.wrap (n.tdiv (5:Int))).tmod (4:Int)).toNat) * (1:Nat)) []) = H
 have hGl : G.length <= 60 := hG ▸ tab _
 have hHl : H.length <= 20 := hH ▸ ztz (by decide)
 clear hG hH tab
 repeat' (with_reducible first | apply ztx <;> intro _ | refine ztv ?_ ?_ | refine zty hp.1 ?_ | refine zty hp.2 ?_ | refine zty he ?_ | intro y hy | apply ztu | (first | (simp only [List.length_append, List.length_cons, List.length_nil]; omega) | omega | exact ztz (by decide)) | refine ⟨?_, ?_⟩)
theorem zua {l s : Bs} (hs : s.length <= 400) : ∃ y, q81.L9.f l s 0 = some y ∧ y.length <= 700 := by
 unfold q81.L9.f
 refine zie _ (fun z : Bs × Int => 0 <= z.2 ∧ z.2 <= 3 ∧ (z.1.length:Int) <= 400 + 100 * z.2) (fun z => (4 - z.2).toNat) (fun _ (r : Bs) => r.length <= 700) ?_ ⟨Int.le_refl _, by show (0:Int) <= 3; decide, by show (s.length:Int) <= 400 + 100 * 0; omega⟩ (by unfold rounds; show (4 - (0:Int)).toNat < _; omega)
 rintro ⟨s, i⟩ ⟨h1, h2, h3⟩
 dsimp only at h1 h2 h3 ⊢
 unfold q81.L9.t
 simp only [List.drop_zero, List.take_length, Nat.zero_add]
 obtain ⟨y1, e1, g1, g2⟩ := zu8 l (i := 5) (by decide)
 have m1 := tm 4 g1 (by decide)
 have w1 : IntKind.i64.wrap (y1.tmod 4) = y1.tmod 4 := w64 (by omega) (by omega)
 have w2 : IntKind.i64.wrap (6 + IntKind.i64.wrap (2 * i)) = 6 + 2 * i := by rw [w64 (n := 2 * i) (by omega) (by omega), w64 (by omega) (by omega)]
 have w3 : IntKind.i64.wrap (7 + IntKind.i64.wrap (2 * i)) = 7 + 2 * i := by rw [w64 (n := 2 * i) (by omega) (by omega), w64 (by omega) (by omega)]
 have w4 : IntKind.i64.wrap (8 + i) = 8 + i := w64 (by omega) (by omega)
 have w5 : IntKind.i64.wrap (i + 1) = i + 1 := w64 (by omega) (by omega)
 rw [w2, w3, w4, w5]
 by_cases hlt : i < y1.tmod 4
 ·right
  obtain ⟨y2, e2, a1, a2⟩ := zu8 l (i := 6 + 2 * i) (by omega)
  obtain ⟨y3, e3, b1, b2⟩ := zu8 l (i := 7 + 2 * i) (by omega)
  obtain ⟨y4, e4, c1⟩ := zu3 (a := y2) (b := y3) ⟨b1, b2⟩
  obtain ⟨y5, e5, d1, d2⟩ := zu8 l (i := 8 + i) (by omega)
  obtain ⟨y6, e6, f1⟩ := zu2 (k := y5) d1
  have hlen : (s ++ y4 ++ y6).length = s.length + y4.length + y6.length := by simp only [List.length_append]
  refine ⟨(s ++ y4 ++ y6, i + 1), ?_, ?_, ?_, ?_⟩
  ·refine zs9 (by omega) (zs8 e1 ?_)
   rw [w1]
   refine go_t (by rw [decide_eq_true_iff]; exact hlt) ?_
   refine zs9 (by omega) (zs8 e2 ?_)
   refine zs9 (by omega) (zs8 e3 (zs8 e4 ?_))
   refine zs9 (by omega) (zs9 (by omega) (zs8 e5 (zs8 e6 ?_)))
   refine zs9 (by simp only [List.length_append]; omega) (zs9 (by simp) rfl)
  ·dsimp only; omega
  ·dsimp only; omega
  ·intro r hr; exact hr
 ·left
  refine ⟨s, ?_, by omega⟩
  refine zs9 (by omega) (zs8 e1 ?_)
  rw [w1]
  refine go_f (by rw [decide_eq_false_iff_not]; exact hlt) ?_
  exact zs9 (by simp) rfl
theorem zub (l : Bs) : ∃ y, q81.f l = some y ∧ y.length <= 1200 := by
 show Has (q81.t l) _
 unfold q81.t
 simp only [List.drop_zero, List.take_length, Nat.zero_add]
 have b1 : ∀ y, (q81.tb2_1 y).length <= 40 := fun y => ztz (by decide)
 have b2 : ∀ y, (q81.tb2_2 y).length <= 40 := fun y => ztz (by decide)
 repeat' (with_reducible first
  | apply ztx <;> intro _
  | refine ztv ?_ ?_
  | (refine zty (zu8 l (by decide)) ?_; intro y hy; have hm := tm (b := y) 4 hy.1 (by decide); have hb1 := b1 y; have hb2 := b2 y)
  | (refine zty (zu1 (by omega) (by omega)) ?_; intro y hy)
  | (refine zty (zu2 (by omega)) ?_; intro y hy)
  | (refine zty (zua (by (first | (simp only [List.length_append, List.length_cons, List.length_nil]; omega) | omega | exact ztz (by decide)))) ?_; intro y hy)
  | (refine zty (zu9 (by omega) (by omega)) ?_; rintro ⟨ya, yb⟩ ⟨hya, hyb⟩; dsimp only at hya hyb ⊢)
  | apply ztu
  | exact ⟨rfl, rfl⟩
  | trivial
  | (first | (simp only [List.length_append, List.length_cons, List.length_nil]; omega) | omega | exact ztz (by decide)))
theorem zuc {l : Bs} (hl : l.length <= 40) : ∃ y, q87.f l = some y ∧ y.length <= 8000 := by
 have hL : ∃ y, q87.L3.f l [] 0 = some y ∧ y.length <= 8000 := by
  unfold q87.L3.f
  refine zie _ (fun z : Bs × Int => 0 <= z.2 ∧ z.2 <= 50 ∧ (z.1.length:Int) <= 120 * z.2) (fun z => (60 - z.2).toNat) (fun _ (r : Bs) => r.length <= 8000) ?_ ⟨Int.le_refl _, by show (0:Int) <= 50; decide, by show ((0:Nat):Int) <= 120 * 0; decide⟩ (by unfold rounds; show (60 - (0:Int)).toNat < _; decide)
  rintro ⟨s, i⟩ ⟨h1, h2, h3⟩
  dsimp only at h1 h2 h3 ⊢
  unfold q87.L3.t
  have w1 : IntKind.i64.wrap (i + 10) = i + 10 := w64 (by omega) (by omega)
  rw [w1]
  have hm : mn2 (i + 10) (l.length:Int) = min (i + 10) (l.length:Int) := z1i _ _
  rw [hm]
  by_cases hlt : i < (l.length:Int)
  ·by_cases h40 : i < 40
   ·right
    obtain ⟨y, e, hy⟩ := zub (List.take (min (i + 10) (l.length:Int) - i).toNat (List.drop ((0:Nat) + i.toNat) l))
    refine ⟨(s ++ y, i + 10), ?_, ?_, ?_, ?_⟩
    ·refine go_t (by rw [decide_eq_true_iff]; exact hlt) (go_t (by rw [decide_eq_true_iff]; exact h40) ?_)
     refine zs9 (by omega) (zs9 (by omega) (zs8 e ?_))
     refine zs9 (by omega) ?_
     rfl
    ·dsimp only
     rw [List.length_append]
     omega
    ·dsimp only; omega
    ·intro r hr; exact hr
   ·left
    exact ⟨s, go_t (by rw [decide_eq_true_iff]; exact hlt) (go_f (by rw [decide_eq_false_iff_not]; exact h40) rfl), by omega⟩
  ·left
   exact ⟨s, go_f (by rw [decide_eq_false_iff_not]; exact hlt) rfl, by omega⟩
 obtain ⟨y, e, hy⟩ := hL
 refine ⟨y, ?_, hy⟩
 unfold q87.f q87.t
 rw [vokl]
 refine zs8 e ?_
 rw [List.nil_append, zld]
 exact zs9 (by omega) (zs9 (by omega) rfl)
theorem zud : ((List.range 256).all fun k => match q7p.f (k:Int) with
 | some (a, b, c, d, e, f, g, h, i, j) => okB a b c d e f g h && decide (d <= 65536)
 | none => false) = true := by decide +kernel
theorem zue (k:UInt8) : ∃ a b c d e f g h i j, q7p.f (Int.ofNat k.toNat) = some (a, b, c, d, e, f, g, h, i, j) ∧ okB a b c d e f g h = true := by
 have := List.all_eq_true.1 zud k.toNat (List.mem_range.2 k.toNat_lt)
 split at this
 ·rename_i a b c d e f g h i j hs
  simp only [Bool.and_eq_true] at this
  exact ⟨a, b, c, d, e, f, g, h, i, j, hs, this.1⟩
 ·cases this
def Few (l : List Rec) : Prop := ∀ r ∈ l, r.2.2.2.1.length < 1000000000 ∧ r.2.2.2.2.2.2.length < 1000000000
theorem zuf {S : PS} (h1 : LB 101 S.fields) (h2 : LB 101 S.trailers) : Few [S.rec_] := by
 intro r hr
 simp only [List.mem_cons, List.not_mem_nil, or_false] at hr
 subst hr
 have q1 := h1.1
 have q2 := h2.1
 exact ⟨by show S.fields.length < _; omega, by show S.trailers.length < _; omega⟩
theorem zug : Few [] := fun r hr => by simp at hr
theorem zuh {C : Cfg} {S : PS} (ho : S.out = []) (h1 : LB 101 S.fields) (h2 : LB 101 S.trailers) : Few (S.whole C).out := by
 show Few (S.out ++ [S.rec_])
 rw [ho]
 exact zuf h1 h2
theorem zui {S T : PS} (ho : S.out = []) (h : T.out = S.out) : Few T.out := by rw [h, ho]; exact zug
theorem zuj {C : Cfg} {S : PS} (ho : S.out = []) (h1 : LB 101 S.fields) (h2 : LB 101 S.trailers) : Few (S.ended C).out := by
 unfold PS.ended PS.request PS.framed PS.fieldF PS.chunk PS.fieldT
 simp only
 repeat' split
 all_goals first
  | exact zuh ho h1 h2
  | exact zui ho rfl
theorem zuk {C D : Cfg} {n : Nat} {S : PS} {c : UInt8} (hS : Inv D n S) (ho : S.out = []) (he : (S.step (C.by 0) c true).err = 0) : Few (S.step (C.by 0) c true).out := by
 unfold PS.step PS.stepG at he ⊢
 by_cases h0 : S.err ≠ 0
 ·rw [if_pos h0]; exact zui ho rfl
 ·rw [if_neg h0] at he ⊢
  by_cases h1 : S.stage = 2 ∨ S.stage = 4
  ·rw [if_pos h1]
   unfold PS.bodyB
   simp only
   repeat' split
   all_goals first
    | exact zuh ho hS.f1 hS.t1
    | exact zui ho rfl
  ·rw [if_neg h1, if_pos rfl] at he ⊢
   have hc : (S.mark.counted (C.by 0)).1.out = [] ∧ LB 101 (S.mark.counted (C.by 0)).1.fields ∧ LB 101 (S.mark.counted (C.by 0)).1.trailers := by
    unfold PS.counted
    repeat' split
    all_goals exact ⟨ho, hS.f1, hS.t1⟩
   by_cases h3 : (S.mark.counted (C.by 0)).2 = false
   ·rw [if_pos h3]; exact zui hc.1 rfl
   ·rw [if_neg h3] at he ⊢
    generalize (S.mark.counted (C.by 0)).1 = U at he hc ⊢
    have e1 : (U.lineB (C.by 0) c).1.out = U.out := zqi _ _ _
    have e2 : (U.lineB (C.by 0) c).1.fields = U.fields := zqf _ _ _
    have e3 : (U.lineB (C.by 0) c).1.trailers = U.trailers := zqh _ _ _
    rcases zth (C := C) (S := U) (c := c) with h | h | h | h
    ·unfold PS.tailG
     rw [if_neg (by rw [h]; decide), if_neg (by rw [h]; decide), if_neg (by rw [h]; decide), if_neg (by rw [h]; decide), e1, hc.1]
     exact zug
    ·unfold PS.tailG
     rw [if_pos h]
     exact zuj (by rw [e1]; exact hc.1) (by rw [e2]; exact hc.2.1) (by rw [e3]; exact hc.2.2)
    ·exfalso
     unfold PS.tailG at he
     rw [if_neg (by rw [h]; decide), if_neg (by rw [h]; decide), if_neg (by rw [h]; decide), if_pos h] at he
     exact absurd he (by simp [PS.fail])
    ·exfalso
     unfold PS.tailG at he
     rw [if_neg (by rw [h]; decide), if_neg (by rw [h]; decide), if_pos h] at he
     exact ztr he
end Pl
end Go.Vx
end
section
set_option maxRecDepth 100000
namespace Go.Vx
namespace Pl
open Go Go.Proofs
theorem zul {l : Fs} (hl : l.length < 1000000000) : qbj.f l l = some true := by
 have hL : q8m.L4.f l l (l.length:Int) 0 = some (.inl ()) := by
  unfold q8m.L4.f
  refine zsa l.length (fun k => (k:Int)) _ (fun k hk => ?_) ?_ (by omega) rfl
  ·unfold q8m.L4.t
   have hw := wS (k := k) (by omega)
   refine go_t (by rw [decide_eq_true_iff]; omega) ?_
   refine zs9 (by omega) (zs9 (by omega) (zs9 (by omega) (zs9 (by omega) ?_)))
   refine go_f (by simp) ?_
   rw [vokl, vokl, hw]
   rfl
  ·unfold q8m.L4.t
   exact go_f (by simp) rfl
 have hE : q8m.f l l = some true := by
  unfold q8m.f q8m.t
  refine go_f (by simp) ?_
  rw [vokl, vokl, Tr.val_inl hL]
  rfl
 unfold qbj.f qbj.t
 refine zs9 (by omega) (zs9 (by omega) ?_)
 rw [zld, hE]
 rfl
theorem zum {l : Bs} : q03.f l l = some true := by
 unfold q03.f q03.t
 refine zs9 (by omega) (zs9 (by omega) ?_)
 show some _ = some _
 simp
theorem zun {a1 a2 : Bs} {a3 : Int} {a4 : Fs} {a5 : Bool} {a6 : Bs} {a7 : Fs} (h1 : a4.length < 1000000000) (h2 : a7.length < 1000000000) : q64.f a4 a6 a7 a4 a6 a7 a1 a2 a3 a5 a1 a2 a3 a5 = some true := by
 unfold q64.f q64.t
 simp only [List.drop_zero, List.take_length, Nat.zero_add]
 refine zs9 (Nat.le_refl _) (zs9 (Nat.le_refl _) (zs8 (zul h1) ?_))
 refine go_t rfl ?_
 refine zs9 (Nat.le_refl _) (zs9 (Nat.le_refl _) (zs8 (zul h2) ?_))
 refine go_t rfl ?_
 refine zs9 (Nat.le_refl _) (zs9 (Nat.le_refl _) (zs8 zum ?_))
 refine go_t rfl (go_t (by simp) (go_t (by simp) (go_t (by simp) ?_)))
 show some _ = some _
 simp
theorem zuo {l : List Rec} (hl : l.length < 1000000000) (hf : Few l) : q5y.f l l = some true := by
 have hL : q8p.L4.f l l (l.length:Int) 0 = some (.inl ()) := by
  unfold q8p.L4.f
  refine zsa l.length (fun k => (k:Int)) _ (fun k hk => ?_) ?_ (by omega) rfl
  ·unfold q8p.L4.t
   have hw := wS (k := k) (by omega)
   have hr := hf l[k] (List.getElem_mem hk)
   have hat : l.getD ((0:Nat) + (k:Int).toNat) ([], [], (0:Int), [], false, [], []) = l[k] := by rw [Nat.zero_add, Int.toNat_natCast]; exact zj5 hk rfl
   rw [hat]
   refine go_t (by rw [decide_eq_true_iff]; omega) ?_
   refine zs9 (by omega) (zs9 (by omega) (zs9 (by omega) (zs9 (by omega) (zs8 (zun hr.1 hr.2) ?_))))
   refine go_f rfl ?_
   rw [vokl, vokl, hw]
   rfl
  ·unfold q8p.L4.t
   exact go_f (by simp) rfl
 have hE : q8p.f l l = some true := by
  unfold q8p.f q8p.t
  refine go_f (by simp) ?_
  rw [vokl, vokl, Tr.val_inl hL]
  rfl
 unfold q5y.f q5y.t
 refine zs9 (by omega) (zs9 (by omega) ?_)
 rw [zld, hE]
 rfl
theorem zup {C : Cfg} {S : PS} (h : Small C S) (o : List Rec) : ∃ y, q4a.f S.method S.target S.err S.over S.b S.fields S.body S.trailers o = some y := by
 have h3 := h.fields.1
 have h4 := h.trailers.1
 have hb := h.body
 have hbb := h.b
 unfold q4a.f q4a.t
 rw [zr1]
 by_cases he : S.err = 0
 ·rw [decide_eq_false (by simp [he]), zmy, vokl]
  obtain ⟨z, hz⟩ : ∃ z, q67.f S.fields S.body S.trailers S.method S.target = some z := by
   unfold q67.f q67.t
   rw [Tr.val_chk (by omega), zld, zs7 h.fields, Tr.val_call rfl, Tr.val_chk (by omega), zld, zs7 h.trailers, Tr.val_call rfl]
   exact ⟨_, rfl⟩
  obtain ⟨y, hy⟩ : ∃ y, q2j.f S.over S.b = some y := by
   unfold q2j.f q2j.t
   cases S.over
   ·exact ⟨_, rfl⟩
   ·exact ⟨_, rfl⟩
  rw [hy, Tr.val_call rfl, Tr.val_chk (by omega), Tr.val_chk (by omega), Tr.val_chk (by omega)]
  simp only [zld]
  rw [hz, Tr.val_call rfl]
  exact ⟨_, rfl⟩
 ·rw [decide_eq_true (by simpa using he), zmx]
  exact ⟨_, rfl⟩
end Pl
end Go.Vx
end
section
set_option maxRecDepth 100000
namespace Go.Vx
namespace Pl
open Go Go.Proofs
end Pl
end Go.Vx
end
section
set_option maxRecDepth 100000
namespace Go.Vx
namespace Pl
open Go Go.Proofs
theorem zuq {α : Type} {d : Eqb α} {a b : Tr α} {y : α} (h1 : a.val = some y) (h2 : b.val = some y) : (@Tr.two α d a b).val = some y := by
 simp [Tr.val, h1, h2]
theorem zur {α : Type} {a : Tr α} {r : Option α} (h : a.val = r) : (Tr.twice a).val = r := h
theorem zus {s : Bs} {k : Nat} {c : UInt8} (hk : k < s.length) (hc : s[k]'hk = c) : List.drop k (List.take (k + 1) s) = [c] := by
 rw [List.drop_take, show k + 1 - k = 1 by omega, List.drop_eq_getElem_cons hk, hc]
 rfl
structure FS where
 v : Int
 code : Int
 parted : Bool
 S : PS
 T : PS
 out : List Rec
def FS.next (C : Cfg) (p:Int) (X : FS) (c:UInt8) : FS :=
 if (X.S.taken.step (C.by 0) c true).err ≠ 0 then ⟨2, (X.S.taken.step (C.by 0) c true).err, (X.T.taken.step (C.by p) c true).err == 0, X.S.taken.step (C.by 0) c true, X.T.taken.step (C.by p) c true, X.out⟩
 else ⟨X.v, X.code, X.parted, X.S.taken.step (C.by 0) c true, X.T.taken.step (C.by p) c true, X.out ++ (X.S.taken.step (C.by 0) c true).out⟩
def FS.feed (C : Cfg) (p:Int) : FS -> Bs -> FS
 | X, [] => X
 | X, c :: l => if X.v = 2 then X else (X.next C p c).feed C p l
def FS.exits (C : Cfg) (p:Int) : FS -> Bs -> Bool
 | _, [] => false
 | X, c :: l => if X.v = 2 then true else (X.next C p c).exits C p l
theorem zut {C : Cfg} {p : Int} {X : FS} (h : X.v = 2) : ∀ l, X.feed C p l = X
 | [] => rfl
 | c :: l => by unfold FS.feed; rw [if_pos h]
theorem zuu {C : Cfg} {p : Int} : ∀ (l l' : Bs) (X : FS), X.feed C p (l ++ l') = (X.feed C p l).feed C p l'
 | [], l', X => rfl
 | c :: l, l', X => by
  show (if X.v = 2 then X else (X.next C p c).feed C p (l ++ l')) = (if X.v = 2 then X else (X.next C p c).feed C p l).feed C p l'
  by_cases h : X.v = 2
  ·rw [if_pos h, if_pos h, zut h]
  ·rw [if_neg h, if_neg h, zuu l l']
theorem zuv {C : Cfg} {p : Int} : ∀ (l : Bs) (X : FS), X.exits C p l = true -> (X.feed C p l).v = 2
 | [], X, h => by cases h
 | c :: l, X, h => by
  unfold FS.exits at h
  unfold FS.feed
  by_cases hv : X.v = 2
  ·rw [if_pos hv]; exact hv
  ·rw [if_neg hv] at h ⊢; exact zuv l _ h
theorem zuw {C : Cfg} {p : Int} {ρ : Type} (g h : FS -> ρ) : ∀ (l : Bs) (X : FS), zj2 (fun (X : FS) c => if X.v = 2 then .inr (h X) else .inl (X.next C p c)) g X l = if X.exits C p l = true then h (X.feed C p l) else g (X.feed C p l)
 | [], X => rfl
 | c :: l, X => by
  unfold zj2 FS.exits FS.feed
  by_cases hv : X.v = 2
  ·simp [if_pos hv]
  ·simp only [if_neg hv]
   exact zuw g h l _
def FI (C : Cfg) (p:Int) (n:Nat) (X : FS) : Prop := X.out.length <= 1000000 * n ∧ Good (C.by 0) n X.S ∧ Good (C.by p) n X.T ∧
 ((X.v = 1 ∧ X.T = X.S ∧ X.code = 0 ∧ X.parted = false) ∨ (X.v = 2 ∧ X.code ≠ 0 ∧ X.S.err ≠ 0))
theorem FI.mono {C : Cfg} {p : Int} {n m : Nat} {X : FS} (h : FI C p n X) (hn : n <= m) : FI C p m X := ⟨Nat.le_trans h.1 (Nat.mul_le_mul_left _ hn), h.2.1.mono hn, h.2.2.1.mono hn, h.2.2.2⟩
theorem zux {C : Cfg} {p : Int} {n : Nat} {X : FS} (h0 : zrb (C.by 0)) (hp : zrb (C.by p)) (h : FI C p n X) (hn : n <= 900000) (hv : X.v ≠ 2) (c:UInt8) : FI C p (n + 4) (X.next C p c) := by
 obtain ⟨ho, g0, gp, hc⟩ := h
 rcases hc with ⟨hv1, hT, hcode, hpart⟩ | ⟨h2, _⟩
 ·have q0 := zrk h0 (by omega) c true g0.taken
  have qp := zrk hp (by omega) c true gp.taken
  have hU := q0.1.out
  unfold FS.next
  by_cases he : (X.S.taken.step (C.by 0) c true).err ≠ 0
  ·rw [if_pos he]
   exact ⟨by show X.out.length <= _; omega, q0, qp, .inr ⟨rfl, he, he⟩⟩
  ·rw [if_neg he]
   refine ⟨?_, q0, qp, .inl ⟨hv1, ?_, hcode, hpart⟩⟩
   ·show (X.out ++ (X.S.taken.step (C.by 0) c true).out).length <= _
    rw [List.length_append]
    omega
   ·show X.T.taken.step (C.by p) c true = X.S.taken.step (C.by 0) c true
    rw [hT]
    exact ztt (Classical.byContradiction he)
 ·exact absurd h2 hv
theorem zuy {C : Cfg} {p : Int} (h0 : zrb (C.by 0)) (hp : zrb (C.by p)) : ∀ (l : Bs) (n:Nat) (X : FS), n + 4 * l.length <= 900000 -> FI C p n X -> FI C p (n + 4 * l.length) (X.feed C p l)
 | [], n, X, hn, h => h
 | c :: l, n, X, hn, h => by
  simp only [List.length_cons] at hn ⊢
  unfold FS.feed
  by_cases hv : X.v = 2
  ·rw [if_pos hv]; exact h.mono (by omega)
  ·rw [if_neg hv]
   exact (zuy h0 hp l (n + 4) _ (by omega) (zux h0 hp h (by omega) hv c)).mono (by omega)
abbrev FTup := Int × Int × Bool × Bs × Bs × Int × Bool × Int × Int × Int × Int × Bool × Bool × Int × Int × Int × Int × Int × Int × Int × Int × Int × Bool × Bool × Int × Bs × Bs × Int × Bool × Int × Int × Int × Int × Bool × Bool × Int × Int × Int × Int × Int × Int × Int × Int × Int × Bool × Bool × Int × List Rec × Int × Int × Bool × Bool × Bool × Bs × Fs × Bs × Fs × List Rec × Int × Int × Bool × Bool × Bool × Bs × Fs × Bs × Fs × List Rec
def FS.tup (C : Cfg) (p:Int) (X : FS) : FTup := (X.v, X.code, X.parted, X.S.method, X.S.target, X.S.minor, X.S.chunked, X.S.stage, X.S.lines, X.S.head, X.S.need, X.S.begun, X.S.waits, (C.by 0).p, (C.by 0).line, (C.by 0).fields, (C.by 0).head, (C.by 0).body, (C.by 0).ext, (C.by 0).trailers, (C.by 0).wait, (C.by 0).idle, (C.by 0).chunked, (C.by 0).old, X.S.err, X.T.method, X.T.target, X.T.minor, X.T.chunked, X.T.stage, X.T.lines, X.T.head, X.T.need, X.T.begun, X.T.waits, (C.by p).p, (C.by p).line, (C.by p).fields, (C.by p).head, (C.by p).body, (C.by p).ext, (C.by p).trailers, (C.by p).wait, (C.by p).idle, (C.by p).chunked, (C.by p).old, X.T.err, X.out, (C.by 0).p, X.S.most, X.S.pend, X.S.over, X.S.bad, X.S.b, X.S.fields, X.S.body, X.S.trailers, X.S.out, (C.by p).p, X.T.most, X.T.pend, X.T.over, X.T.bad, X.T.b, X.T.fields, X.T.body, X.T.trailers, X.T.out)
def FS.tupI (C : Cfg) (p:Int) (k:Nat) (X : FS) := (X.v, X.code, X.parted, X.S.method, X.S.target, X.S.minor, X.S.chunked, X.S.stage, X.S.lines, X.S.head, X.S.need, X.S.begun, X.S.waits, (C.by 0).p, (C.by 0).line, (C.by 0).fields, (C.by 0).head, (C.by 0).body, (C.by 0).ext, (C.by 0).trailers, (C.by 0).wait, (C.by 0).idle, (C.by 0).chunked, (C.by 0).old, X.S.err, X.T.method, X.T.target, X.T.minor, X.T.chunked, X.T.stage, X.T.lines, X.T.head, X.T.need, X.T.begun, X.T.waits, (C.by p).p, (C.by p).line, (C.by p).fields, (C.by p).head, (C.by p).body, (C.by p).ext, (C.by p).trailers, (C.by p).wait, (C.by p).idle, (C.by p).chunked, (C.by p).old, X.T.err, X.out, (C.by 0).p, X.S.most, X.S.pend, X.S.over, X.S.bad, X.S.b, X.S.fields, X.S.body, X.S.trailers, X.S.out, (C.by p).p, X.T.most, X.T.pend, X.T.over, X.T.bad, X.T.b, X.T.fields, X.T.body, X.T.trailers, X.T.out, (k:Int))
theorem zuz {C : Cfg} {p : Int} {n : Nat} {X : FS} {l : Bs} (parts : List Bs) (h0 : zrb (C.by 0)) (hp : zrb (C.by p)) (hn : n + 4 * l.length <= 900000) (hX : FI C p n X) :
  q0l.L6.f X.v X.code X.parted X.S.method X.S.target X.S.minor X.S.chunked X.S.stage X.S.lines X.S.head X.S.need X.S.begun X.S.waits (C.by 0).p (C.by 0).line (C.by 0).fields (C.by 0).head (C.by 0).body (C.by 0).ext (C.by 0).trailers (C.by 0).wait (C.by 0).idle (C.by 0).chunked (C.by 0).old X.S.err X.T.method X.T.target X.T.minor X.T.chunked X.T.stage X.T.lines X.T.head X.T.need X.T.begun X.T.waits (C.by p).p (C.by p).line (C.by p).fields (C.by p).head (C.by p).body (C.by p).ext (C.by p).trailers (C.by p).wait (C.by p).idle (C.by p).chunked (C.by p).old X.T.err parts X.out (C.by 0).p X.S.most X.S.pend X.S.over X.S.bad X.S.b X.S.fields X.S.body X.S.trailers X.S.out (C.by p).p X.T.most X.T.pend X.T.over X.T.bad X.T.b X.T.fields X.T.body X.T.trailers X.T.out l (l.length:Int) 0 = some (if X.exits C p l = true then .inr ((X.feed C p l).tup C p) else .inl ((X.feed C p l).tup C p)) := by
 rw [← zuw (C := C) (p := p) (fun X => (Sum.inl (X.tup C p) : FTup ⊕ FTup)) (fun X => .inr (X.tup C p))]
 unfold q0l.L6.f
 refine zj4 l (FS.tupI C p) (fun k X => FI C p (n + 4 * k) X) (fun (X : FS) c => if X.v = 2 then .inr (.inr (X.tup C p)) else .inl (X.next C p c)) (fun X => (Sum.inl (X.tup C p) : FTup ⊕ FTup)) ?_ ?_ (by omega) hX rfl
 ·intro k X c hi hk hc
  have hi0 := hi
  by_cases hv : X.v = 2
  ·simp only [if_pos hv]
   refine ⟨?_, fun a' ha => by cases ha⟩
   unfold q0l.L6.t FS.tupI
   dsimp only
   refine go_t (by rw [decide_eq_true_iff]; omega) (go_t (by simpa using hv) ?_)
   rfl
  ·simp only [if_neg hv]
   refine ⟨?_, fun a' ha => by cases ha; exact (zux h0 hp hi0 (by omega) hv c).mono (by omega)⟩
   obtain ⟨ho, g0, gp, hcase⟩ := hi
   rcases hcase with ⟨hv1, hT, hcode, hpart⟩ | ⟨h2, _⟩
   ·obtain ⟨v, code, parted, S, T, out⟩ := X
    dsimp only at hv hv1 hT hcode hpart ho g0 gp
    subst hv1 hT hcode hpart
    have f0 := zru (C := C.by 0) (S := T) (parts := [[c]]) h0 (zsr _) (by simp) (n := n + 4 * k) (by show n + 4 * k + 4 * 1 <= _; omega) g0
    have f1 := zru (C := C.by p) (S := T) (parts := [[c]]) hp (zsr _) (by simp) (n := n + 4 * k) (by show n + 4 * k + 4 * 1 <= _; omega) gp
    rw [show T.taken.feed (C.by 0) [[c]].flatten = T.taken.step (C.by 0) c true from rfl] at f0
    rw [show T.taken.feed (C.by p) [[c]].flatten = T.taken.step (C.by p) c true from rfl] at f1
    have q0 := zrk h0 (by omega) c true g0.taken
    have hby : (T.taken.step (C.by 0) c true).err = 0 -> T.taken.step (C.by p) c true = T.taken.step (C.by 0) c true := ztt
    have hfew := zuk (C := C) (c := c) g0.taken.1 (show T.taken.out = [] from rfl)
    have hw := wS (k := k) (by omega)
    have hat := zus hk hc
    have hr : (0:Int) <= (k:Int) ∧ (k:Int) <= ((k + 1:Nat):Int) ∧ ((k + 1:Nat):Int) <= (l.length:Int) := by omega
    have hU := q0.1.out
    unfold FS.next
    dsimp only
    generalize T.taken.step (C.by 0) c true = U at f0 q0 hby hfew hU ⊢
    generalize T.taken.step (C.by p) c true = V at f1 hby ⊢
    unfold q0l.L6.t FS.tupI
    dsimp only
    rw [hw]
    simp only [Int.toNat_natCast]
    rw [hat, show List.take 1 (List.drop 0 [[c]]) = [[c]] from rfl]
    refine go_t (by rw [decide_eq_true_iff]; omega) (go_f (by decide) ?_)
    by_cases he : U.err ≠ 0
    ·rw [if_pos he]
     refine zuq ?_ (zur (zs9 hr ?_)) <;> (
      refine zs9 hr ?_
      repeat rw [vokl]
      refine zs9 (Nat.le_refl _) ?_
      refine zs8 f0 ?_
      dsimp only [PS.tupF]
      first
       | refine zs9 hr ?_
       | skip
      repeat rw [vokl]
      refine zs9 (Nat.le_refl _) ?_
      refine zs8 f1 ?_
      dsimp only [PS.tupF]
      repeat rw [vokl]
      refine zs8 (zs2 _ _ _ _ _) ?_
      repeat rw [vokl]
      refine zs8 (zs2 _ _ _ _ _) ?_
      refine go_t (by simpa using he) ?_
      repeat rw [vokl]
      refine zs8 (zs2 _ _ _ _ _) ?_
      rfl)
    ·have he0 : U.err = 0 := Classical.byContradiction he
     have hV := hby he0
     subst hV
     have hFew := hfew he0
     have ha := zuo (l := V.out) (by omega) hFew
     rw [if_neg he]
     have hsz : (out.length + V.out.length) * 120 <= 140737488355328 := by omega
     have htk : List.take out.length (List.drop 0 out) ++ List.take V.out.length (List.drop 0 V.out) = out ++ V.out := by simp
     refine zuq ?_ (zur (zs9 hr ?_)) <;> (
      refine zs9 hr ?_
      repeat rw [vokl]
      refine zs9 (Nat.le_refl _) ?_
      refine zs8 f0 ?_
      dsimp only [PS.tupF]
      first
       | refine zs9 hr ?_
       | skip
      repeat rw [vokl]
      refine zs9 (Nat.le_refl _) ?_
      refine zs8 f1 ?_
      dsimp only [PS.tupF]
      repeat rw [vokl]
      refine zs8 (zs2 _ _ _ _ _) ?_
      repeat rw [vokl]
      refine zs8 (zs2 _ _ _ _ _) ?_
      refine go_f (by simpa using he0) ?_
      refine go_f (by simpa using he0) ?_
      refine zs9 (by omega) (zs9 (by omega) ?_)
      refine zs8 (by rw [zld]; exact ha) ?_
      refine go_f rfl ?_
      refine zs9 (by omega) (zs9 (by omega) (zs9 hsz ?_))
      repeat rw [vokl]
      refine zs9 (by simp) ?_
      repeat rw [vokl]
      rw [htk]
      rfl)
   ·exact absurd h2 hv
 ·intro X _
  unfold q0l.L6.t FS.tupI
  dsimp only
  exact go_f (by simp) rfl
theorem zv0 {C : Cfg} {p : Int} {ρ : Type} (g h : FS -> ρ) : ∀ (ls : List Bs) (X : FS), zj2 (fun (X : FS) l => if X.exits C p l = true then .inr (h (X.feed C p l)) else .inl (X.feed C p l)) g X ls = g (X.feed C p ls.flatten) ∨ zj2 (fun (X : FS) l => if X.exits C p l = true then .inr (h (X.feed C p l)) else .inl (X.feed C p l)) g X ls = h (X.feed C p ls.flatten)
 | [], X => .inl rfl
 | l :: ls, X => by
  unfold zj2
  rw [List.flatten_cons, zuu]
  by_cases he : X.exits C p l = true
  ·rw [if_pos he, zut (zuv l X he)]
   exact .inr rfl
  ·rw [if_neg he]
   exact zv0 g h ls _
theorem zv1 {C : Cfg} {p : Int} {n : Nat} {X : FS} {parts : List Bs} (h0 : zrb (C.by 0)) (hp : zrb (C.by p)) (hs : ∀ l ∈ parts, l.length <= 8250) (hn : n + 33000 * parts.length <= 900000) (hX : FI C p n X) :
  q0l.L3.f X.v X.code X.parted X.S.method X.S.target X.S.minor X.S.chunked X.S.stage X.S.lines X.S.head X.S.need X.S.begun X.S.waits (C.by 0).p (C.by 0).line (C.by 0).fields (C.by 0).head (C.by 0).body (C.by 0).ext (C.by 0).trailers (C.by 0).wait (C.by 0).idle (C.by 0).chunked (C.by 0).old X.S.err X.T.method X.T.target X.T.minor X.T.chunked X.T.stage X.T.lines X.T.head X.T.need X.T.begun X.T.waits (C.by p).p (C.by p).line (C.by p).fields (C.by p).head (C.by p).body (C.by p).ext (C.by p).trailers (C.by p).wait (C.by p).idle (C.by p).chunked (C.by p).old X.T.err parts X.out (C.by 0).p X.S.most X.S.pend X.S.over X.S.bad X.S.b X.S.fields X.S.body X.S.trailers X.S.out (C.by p).p X.T.most X.T.pend X.T.over X.T.bad X.T.b X.T.fields X.T.body X.T.trailers X.T.out (parts.length:Int) 0 = some (.inl ((X.feed C p parts.flatten).tup C p)) ∨ q0l.L3.f X.v X.code X.parted X.S.method X.S.target X.S.minor X.S.chunked X.S.stage X.S.lines X.S.head X.S.need X.S.begun X.S.waits (C.by 0).p (C.by 0).line (C.by 0).fields (C.by 0).head (C.by 0).body (C.by 0).ext (C.by 0).trailers (C.by 0).wait (C.by 0).idle (C.by 0).chunked (C.by 0).old X.S.err X.T.method X.T.target X.T.minor X.T.chunked X.T.stage X.T.lines X.T.head X.T.need X.T.begun X.T.waits (C.by p).p (C.by p).line (C.by p).fields (C.by p).head (C.by p).body (C.by p).ext (C.by p).trailers (C.by p).wait (C.by p).idle (C.by p).chunked (C.by p).old X.T.err parts X.out (C.by 0).p X.S.most X.S.pend X.S.over X.S.bad X.S.b X.S.fields X.S.body X.S.trailers X.S.out (C.by p).p X.T.most X.T.pend X.T.over X.T.bad X.T.b X.T.fields X.T.body X.T.trailers X.T.out (parts.length:Int) 0 = some (.inr ((X.feed C p parts.flatten).tup C p)) := by
 have key : q0l.L3.f X.v X.code X.parted X.S.method X.S.target X.S.minor X.S.chunked X.S.stage X.S.lines X.S.head X.S.need X.S.begun X.S.waits (C.by 0).p (C.by 0).line (C.by 0).fields (C.by 0).head (C.by 0).body (C.by 0).ext (C.by 0).trailers (C.by 0).wait (C.by 0).idle (C.by 0).chunked (C.by 0).old X.S.err X.T.method X.T.target X.T.minor X.T.chunked X.T.stage X.T.lines X.T.head X.T.need X.T.begun X.T.waits (C.by p).p (C.by p).line (C.by p).fields (C.by p).head (C.by p).body (C.by p).ext (C.by p).trailers (C.by p).wait (C.by p).idle (C.by p).chunked (C.by p).old X.T.err parts X.out (C.by 0).p X.S.most X.S.pend X.S.over X.S.bad X.S.b X.S.fields X.S.body X.S.trailers X.S.out (C.by p).p X.T.most X.T.pend X.T.over X.T.bad X.T.b X.T.fields X.T.body X.T.trailers X.T.out (parts.length:Int) 0 = some (zj2 (fun (X : FS) l => if X.exits C p l = true then .inr (.inr ((X.feed C p l).tup C p)) else .inl (X.feed C p l)) (fun X => (Sum.inl (X.tup C p) : FTup ⊕ FTup)) X parts) := by
  unfold q0l.L3.f
  refine zj4 parts (FS.tupI C p) (fun k X => FI C p (n + 33000 * k) X) (fun (X : FS) l => if X.exits C p l = true then .inr (.inr ((X.feed C p l).tup C p)) else .inl (X.feed C p l)) (fun X => (Sum.inl (X.tup C p) : FTup ⊕ FTup)) ?_ ?_ (by omega) hX rfl
  ·intro k X l hi hk hc
   have hl := hs l (hc ▸ List.getElem_mem hk)
   have hw := wS (k := k) (by omega)
   have h6 := zuz (l := l) parts h0 hp (by omega) hi
   have hat : parts.getD ((0:Nat) + (k:Int).toNat) [] = l := by rw [Nat.zero_add, Int.toNat_natCast]; exact zj5 hk hc
   constructor
   ·unfold q0l.L3.t FS.tupI
    dsimp only
    rw [hat, hw]
    refine go_t (by rw [decide_eq_true_iff]; omega) (zs9 (by omega) (zs9 (by omega) ?_))
    repeat rw [vokl]
    by_cases he : X.exits C p l = true
    ·rw [if_pos he] at h6
     rw [if_pos he]
     exact (Tr.val_inr h6).trans rfl
    ·rw [if_neg he] at h6
     rw [if_neg he]
     exact (Tr.val_inl h6).trans rfl
   ·intro a' ha
    by_cases he : X.exits C p l = true
    ·rw [if_pos he] at ha; cases ha
    ·rw [if_neg he] at ha
     cases ha
     exact (zuy h0 hp l _ X (by omega) hi).mono (by omega)
  ·intro X _
   unfold q0l.L3.t FS.tupI
   dsimp only
   exact go_f (by simp) rfl
 rw [key]
 rcases zv0 (C := C) (p := p) (fun X => (Sum.inl (X.tup C p) : FTup ⊕ FTup)) (fun X => .inr (X.tup C p)) parts X with h | h
 ·left; exact congrArg some h
 ·right; exact congrArg some h
theorem zv2 {C : Cfg} {p : Int} {n : Nat} {X : FS} {parts : List Bs} (h0 : zrb (C.by 0)) (hp : zrb (C.by p)) (hs : ∀ l ∈ parts, l.length <= 8250) (hn : n + 33000 * parts.length <= 900000) (hX : FI C p n X) :
  q0l.f X.v X.code X.parted X.S.method X.S.target X.S.minor X.S.chunked X.S.stage X.S.lines X.S.head X.S.need X.S.begun X.S.waits (C.by 0).p (C.by 0).line (C.by 0).fields (C.by 0).head (C.by 0).body (C.by 0).ext (C.by 0).trailers (C.by 0).wait (C.by 0).idle (C.by 0).chunked (C.by 0).old X.S.err (C.by 0).p X.S.most X.S.pend X.S.over X.S.bad X.S.b X.S.fields X.S.body X.S.trailers X.S.out X.T.method X.T.target X.T.minor X.T.chunked X.T.stage X.T.lines X.T.head X.T.need X.T.begun X.T.waits (C.by p).p (C.by p).line (C.by p).fields (C.by p).head (C.by p).body (C.by p).ext (C.by p).trailers (C.by p).wait (C.by p).idle (C.by p).chunked (C.by p).old X.T.err (C.by p).p X.T.most X.T.pend X.T.over X.T.bad X.T.b X.T.fields X.T.body X.T.trailers X.T.out parts = some ((({ X with out := [] } : FS).feed C p parts.flatten).tup C p) := by
 have hX' : FI C p n { X with out := [] } := ⟨Nat.zero_le _, hX.2⟩
 unfold q0l.f q0l.t
 repeat rw [vokl]
 rcases zv1 h0 hp hs hn hX' with h | h
 ·exact (Tr.val_inl h).trans rfl
 ·exact (Tr.val_inr h).trans rfl
def FS.new (C : Cfg) (p:Int) : FS := ⟨1, 0, false, PS.new (C.by 0), PS.new (C.by p), []⟩
theorem zv3 {C : Cfg} {p : Int} (h0 : zrb (C.by 0)) (hp : zrb (C.by p)) : FI C p 0 (FS.new C p) := ⟨Nat.le_refl _, zrv h0, zrv hp, .inl ⟨rfl, rfl, rfl, rfl⟩⟩
theorem zv4 {C : Cfg} {p : Int} (h0 : (C.by 0).right) (hp : (C.by p).right) :
  q0o.f p C.line C.fields C.head C.body C.ext C.trailers C.wait C.idle = some (1, 0, false, (PS.new (C.by 0)).method, (PS.new (C.by 0)).target, (PS.new (C.by 0)).minor, (PS.new (C.by 0)).chunked, (PS.new (C.by 0)).stage, (PS.new (C.by 0)).lines, (PS.new (C.by 0)).head, (PS.new (C.by 0)).need, (PS.new (C.by 0)).begun, (PS.new (C.by 0)).waits, 0, (PS.new (C.by 0)).err, 0, (PS.new (C.by 0)).most, (PS.new (C.by 0)).pend, (PS.new (C.by 0)).over, (PS.new (C.by 0)).bad, (PS.new (C.by 0)).b, (PS.new (C.by 0)).fields, (PS.new (C.by 0)).body, (PS.new (C.by 0)).trailers, (PS.new (C.by 0)).out, (PS.new (C.by p)).method, (PS.new (C.by p)).target, (PS.new (C.by p)).minor, (PS.new (C.by p)).chunked, (PS.new (C.by p)).stage, (PS.new (C.by p)).lines, (PS.new (C.by p)).head, (PS.new (C.by p)).need, (PS.new (C.by p)).begun, (PS.new (C.by p)).waits, (PS.new (C.by p)).err, (PS.new (C.by p)).most, (PS.new (C.by p)).pend, (PS.new (C.by p)).over, (PS.new (C.by p)).bad, (PS.new (C.by p)).b, (PS.new (C.by p)).fields, (PS.new (C.by p)).body, (PS.new (C.by p)).trailers, (PS.new (C.by p)).out) := by
 have n0 := zs1 (C.by 0)
 have np := zs1 (C.by p)
 rw [show PS.new' _ = PS.new _ from if_pos h0] at n0
 rw [show PS.new' _ = PS.new _ from if_pos hp] at np
 unfold q0o.f q0o.t
 refine zs8 n0 ?_
 dsimp only [PS.tupN]
 refine zs8 np ?_
 dsimp only [PS.tupN]
 repeat rw [vokl]
 refine zs8 (zs2 _ _ _ _ _) ?_
 refine go_f rfl ?_
 repeat rw [vokl]
 refine zs8 (zs2 _ _ _ _ _) ?_
 exact go_f rfl rfl
end Pl
end Go.Vx
end
section
set_option maxRecDepth 100000
namespace Go.Vx
namespace Pl
open Go Go.Proofs
theorem zv5 : q2a.f = some true := by
 unfold q2a.f q2a.t
 have h0 : ((zsb 0).by 0).right := by decide
 have h2 : ((zsb 0).by 2).right := by decide
 refine zs8 rfl ?_
 dsimp only
 refine zs8 (zv4 (C := zsb 0) (p := 2) h0 h2) ?_
 dsimp only
 refine zs8 (zv4 (C := zsb 0) (p := 0) h0 h0) ?_
 dsimp only
 refine zs9 (Nat.le_refl _) ?_
 repeat rw [vokl]
 refine zs9 (Nat.le_refl _) ?_
 refine zs8 (zv2 (C := zsb 0) (p := 2) (n := 0) (X := FS.new (zsb 0) 2) h0.ok h2.ok (by decide) (by decide) (zv3 h0.ok h2.ok)) ?_
 dsimp only [FS.tup]
 refine zs9 (Nat.le_refl _) ?_
 repeat rw [vokl]
 refine zs9 (Nat.le_refl _) ?_
 refine zs8 (zv2 (C := zsb 0) (p := 0) (n := 0) (X := FS.new (zsb 0) 0) h0.ok h0.ok (by decide) (by decide) (zv3 h0.ok h0.ok)) ?_
 dsimp only [FS.tup]
 decide +kernel
theorem vP_f (va:Int) : (IntKind.u32.wrap (↑(BitVec.ofInt IntKind.u32.bits va &&& BitVec.ofInt IntKind.u32.bits (1073741823:Int)).toNat:Int)).fdiv (2 ^ 30) = 0 := by
 show (IntKind.u32.wrap (((BitVec.ofInt 32 va &&& BitVec.ofInt 32 1073741823).toNat:Nat):Int)).fdiv (2 ^ 30) = 0
 generalize BitVec.ofInt 32 va = x
 have h : (x &&& BitVec.ofInt 32 1073741823).toNat < 1073741824 := by
  rw [BitVec.toNat_and]
  exact Nat.lt_of_le_of_lt Nat.and_le_right (by decide)
 generalize (x &&& BitVec.ofInt 32 1073741823).toNat = n at h
 rw [w32 (by omega) (by omega)]
 rw [Int.fdiv_eq_ediv_of_nonneg _ (by decide)]
 omega
theorem stays_ok (l : Bs) (va:Int) (k:UInt8) (more : Bs) : q29.f l va k more = some true := by
 unfold q29.f q29.t
 have hq := vP_f va
 generalize IntKind.u32.wrap (↑(BitVec.ofInt IntKind.u32.bits va &&& BitVec.ofInt IntKind.u32.bits (1073741823:Int)).toNat:Int) = p at hq ⊢
 refine zs8 zv5 ?_
 refine go_f rfl ?_
 by_cases hl : l.length <= 30
 ·refine go_f (by rw [decide_eq_false_iff_not]; omega) ?_
  by_cases hm : more.length <= 60
  ·refine go_f (by rw [decide_eq_false_iff_not]; omega) ?_
   obtain ⟨b1, b2, b3, b4, b5, b6, b7, b8, b9, b10, hb, hok⟩ := zue k
   obtain ⟨s, hs, hsl⟩ := zuc (show l.length <= 40 by omega)
   refine zs8 hb ?_
   dsimp only
   have hR0 : (Cfg.by ⟨0, b1, b2, b3, b4, b5, b6, b7, b8, b9, b10⟩ 0).right := ⟨hok, by show (0:Int).fdiv (2 ^ 30) = 0; decide⟩
   have hRp : (Cfg.by ⟨0, b1, b2, b3, b4, b5, b6, b7, b8, b9, b10⟩ p).right := ⟨hok, hq⟩
   refine zs8 (zv4 (C := ⟨0, b1, b2, b3, b4, b5, b6, b7, b8, b9, b10⟩) (p := p) hR0 hRp) ?_
   dsimp only
   refine zs8 hs ?_
   refine zs9 (Nat.le_refl _) ?_
   repeat rw [vokl]
   refine zs9 (Nat.le_refl _) ?_
   rw [show List.take 2 (List.drop 0 [s, List.take 4 (List.drop 0 [10, 10, 32, 120])]) = [s, [10, 10, 32, 120]] from rfl]
   have hN := zv3 hR0.ok hRp.ok
   have hF := zv2 (parts := [s, [10, 10, 32, 120]]) (n := 0) hR0.ok hRp.ok (by
    intro x hx
    simp only [List.mem_cons, List.not_mem_nil, or_false] at hx
    rcases hx with rfl | rfl
    ·omega
    ·simp) (by simp) hN
   have hI := zuy hR0.ok hRp.ok [s, [10, 10, 32, 120]].flatten 0 _ (by simp; omega) (show FI _ p 0 ({ FS.new ⟨0, b1, b2, b3, b4, b5, b6, b7, b8, b9, b10⟩ p with out := [] } : FS) from ⟨Nat.zero_le _, hN.2⟩)
   have hlen : [s, [10, 10, 32, 120]].flatten.length <= 8004 := by simp; omega
   generalize ({ FS.new ⟨0, b1, b2, b3, b4, b5, b6, b7, b8, b9, b10⟩ p with out := [] } : FS).feed ⟨0, b1, b2, b3, b4, b5, b6, b7, b8, b9, b10⟩ p [s, [10, 10, 32, 120]].flatten = Y at hF hI
   generalize [s, [10, 10, 32, 120]].flatten.length = n at hI hlen
   refine zs8 hF ?_
   dsimp only [FS.tup]
   obtain ⟨y0, h0⟩ := zup (hI.2.1.1.small hR0.ok (by omega)) Y.S.out
   obtain ⟨y1, h1⟩ := zup (hI.2.2.1.1.small hRp.ok (by omega)) Y.T.out
   repeat rw [vokl]
   refine zs8 h0 ?_
   repeat rw [vokl]
   refine zs8 h1 ?_
   rcases hI.2.2.2 with ⟨hv, _, hc, hp⟩ | ⟨hv, hc, he⟩
   ·refine go_t (by rw [hv]; rfl) (go_t (by rw [hv]; rfl) (go_t (by rw [hc]; rfl) ?_))
    rw [hp]
    rfl
   ·refine go_f (by rw [hv]; rfl) ?_
    refine zs9 (Nat.le_refl _) ?_
    repeat rw [vokl]
    refine zs9 (Nat.le_refl _) ?_
    have hF2 := zv2 (parts := [more, [71, 69, 84, 32, 47, 32, 72, 84, 84, 80, 47, 49, 46, 49, 13, 10, 72, 111, 115, 116, 58, 32, 97, 13, 10, 13, 10]]) hR0.ok hRp.ok (by
     intro x hx
     simp only [List.mem_cons, List.not_mem_nil, or_false] at hx
     rcases hx with rfl | rfl
     ·omega
     ·simp) (by simp; omega) hI
    rw [zut (show ({ Y with out := [] } : FS).v = 2 from hv)] at hF2
    refine zs8 hF2 ?_
    dsimp only [FS.tup]
    refine go_t rfl (go_t (by simp) (go_t (by simp) (go_t (by simp) ?_)))
    repeat rw [vokl]
    refine zs8 h0 ?_
    repeat rw [vokl]
    refine zs8 h1 ?_
    refine go_t (by simp) ?_
    repeat rw [vokl]
    refine zs8 (zs4 Y.S _ _ _ _ _) ?_
    refine go_t (by simp [PS.clean, he]) ?_
    repeat rw [vokl]
    refine zs8 (zs3 Y.S _ _ _ _ _) ?_
    refine go_t (by simp [PS.waiting, he]) ?_
    show some _ = some _
    simp [hc]
  ·exact go_t (by rw [decide_eq_true_iff]; omega) rfl
 ·exact go_t (by rw [decide_eq_true_iff]; omega) rfl
end Pl
end Go.Vx
end
