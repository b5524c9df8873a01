/- Printed by a program of ours out of our texts: the evaluator, the printed functions, the plain laws. (A help: no statement of the seat is proved here.) -/
import Derived.Orders
import Derived.WalkKit
import Derived.Lib.Strings
import Derived.Laws.StructEq
import Derived.Deep.AppendSrc
import Derived.Deep.Upon
import Derived.Lib.ConvBytes
import Derived.Laws.BytesArg
import Derived.Laws.MakeOwn
import Derived.Lib.Builder
import Derived.Lib.UnsafeStr
section
set_option linter.unusedVariables false
namespace Go.Vx
structure Ref where
 g : Nat
 e : Nat
 z : Nat
 o : Nat
 deriving DecidableEq
def Ref.i (r : Ref) : Nat := r.e * r.z + r.o
def Ref.to (r : Ref) (k : Nat) : Ref := ⟨r.g, r.e, r.z, r.o + k⟩
@[simp] theorem Ref.to_g (r : Ref) (k : Nat) : (r.to k).g = r.g := rfl
@[simp] theorem Ref.to_i (r : Ref) (k : Nat) : (r.to k).i = r.i + k := by simp only [Ref.i, Ref.to]; omega
def Ref.el (r : Ref) (k s : Nat) : Ref := bif Nat.beq r.z s then ⟨r.g, r.e + k, s, r.o⟩ else bif Nat.beq r.e 0 then ⟨r.g, k, s, r.o⟩ else ⟨r.g, r.e, r.z, r.o + k * s⟩
@[simp] theorem Ref.el_g (r : Ref) (k s : Nat) : (r.el k s).g = r.g := by
 unfold Ref.el
 cases Nat.beq r.z s <;> cases Nat.beq r.e 0 <;> rfl
@[simp] theorem Ref.el_i (r : Ref) (k s : Nat) : (r.el k s).i = r.i + k * s := by
 unfold Ref.el
 cases h : Nat.beq r.z s with
 | true =>
  have h := Nat.eq_of_beq_eq_true h
  subst h
  simp only [Ref.i, cond_true, Nat.add_mul]
  omega
 | false =>
  cases h' : Nat.beq r.e 0 with
  | true =>
   have h' := Nat.eq_of_beq_eq_true h'
   simp only [Ref.i, cond_true, cond_false, h', Nat.zero_mul]
   omega
  | false => simp only [Ref.i, cond_false]; omega
def Ref.elA (t : Bool) (r : Ref) (k s : Nat) : Ref := bif t then (bif Nat.beq r.z s then ⟨r.g, r.e + k, s, r.o⟩ else ⟨r.g, r.e, r.z, r.o + k * s⟩) else r.el k s
@[simp] theorem Ref.elA_g (t : Bool) (r : Ref) (k s : Nat) : (r.elA t k s).g = r.g := by
 unfold Ref.elA
 cases t <;> cases Nat.beq r.z s <;> simp
@[simp] theorem Ref.elA_i (t : Bool) (r : Ref) (k s : Nat) : (r.elA t k s).i = r.i + k * s := by
 unfold Ref.elA
 cases t with
 | false => simp
 | true =>
  cases h : Nat.beq r.z s with
  | true =>
   have h := Nat.eq_of_beq_eq_true h
   subst h
   simp only [Ref.i, cond_true, Nat.add_mul]
   omega
  | false => simp only [Ref.i, cond_true, cond_false]; omega
inductive Ty where
 | bool
 | int (k : IntKind)
 | byte
 | str
 | sl (t : Ty)
 | unit
 | pair (a b : Ty)
 deriving DecidableEq
@[reducible] def Ty.den : Ty → Type
 | .bool => Bool
 | .int _ => Int
 | .byte => UInt8
 | .str => List UInt8
 | .sl t => List t.den
 | .unit => Unit
 | .pair a b => a.den × b.den
def Ty.dflt : (t : Ty) → t.den
 | .bool => false
 | .int _ => (0 : Int)
 | .byte => (0 : UInt8)
 | .str => []
 | .sl _ => []
 | .unit => ()
 | .pair a b => (a.dflt, b.dflt)
def Ty.z : Ty → Nat
 | .unit => 0
 | .pair a b => a.z + b.z
 | _ => 1
inductive AV where
 | bool (t : Bool) (b : Bool)
 | int (t : Bool) (k : IntKind) (n : Int)
 | str (t : Bool) (s : List UInt8)
 | ptr (t : Bool) (r : Option Ref)
 | slice (t : Bool) (r : Option Ref) (len sz : Nat)
 | vec (t : Ty) (l : List t.den)
 | eptr (t : Ty) (l : List t.den) (e o : Nat)
 | map (r : Option Nat)
 | func (fn : Fn) (first captured : List AV)
 | nilFunc
 | nilIface
 | agg (cs : List AV)
 | tup (vs : List AV)
 deriving Inhabited
def AV.tag : AV → Bool
 | .bool t _ => t
 | .int t _ _ => t
 | .str t _ => t
 | .ptr t _ => t
 | .slice t _ _ _ => t
 | _ => false
def AV.hot (t : Bool) : AV → AV
 | .bool u b => .bool (t || u) b
 | .int u k n => .int (t || u) k n
 | .str u s => .str (t || u) s
 | .ptr u r => .ptr (t || u) r
 | .slice u r n z => .slice (t || u) r n z
 | v => v
def AV.cells : AV → List AV
 | .agg cs => cs
 | v => [v]
def AV.cell : AV → Bool
 | .agg _ => false
 | .tup _ => false
 | _ => true
inductive Trie (α : Type) where
 | leaf
 | node (v : Option α) (l r : Trie α)
def Trie.get {α : Type} : Trie α → Nat → Option α
 | .leaf, _ => none
 | .node v l r, n => bif Nat.beq n 0 then v else bif Nat.beq (n % 2) 1 then l.get (n / 2) else r.get (n / 2 - 1)
def Trie.val {α : Type} : Trie α → Option α
 | .leaf => none
 | .node v _ _ => v
def Trie.left {α : Type} : Trie α → Trie α
 | .leaf => .leaf
 | .node _ l _ => l
def Trie.right {α : Type} : Trie α → Trie α
 | .leaf => .leaf
 | .node _ _ r => r
def Trie.setF {α : Type} : Nat → Trie α → Nat → α → Trie α
 | 0, t, _, _ => t
 | k + 1, t, n, a => bif Nat.beq n 0 then .node (some a) t.left t.right
   else bif Nat.beq (n % 2) 1 then .node t.val (t.left.setF k (n / 2) a) t.right
   else .node t.val t.left (t.right.setF k (n / 2 - 1) a)
def Trie.set {α : Type} (t : Trie α) (n : Nat) (a : α) : Trie α := t.setF (n + 1) n a
theorem nbeq_yes {a b : Nat} (h : a = b) : Nat.beq a b = true := by subst h; simp
theorem nbeq_no {a b : Nat} (h : ¬ a = b) : Nat.beq a b = false := by
 cases e : Nat.beq a b with
 | false => rfl
 | true => exact absurd (Nat.eq_of_beq_eq_true e) h
theorem Trie.get_leaf {α : Type} (n : Nat) : (Trie.leaf : Trie α).get n = none := by simp [Trie.get]
theorem Trie.get_node {α : Type} (v : Option α) (l r : Trie α) (n : Nat) :
  (Trie.node v l r).get n = if n = 0 then v else if n % 2 = 1 then l.get (n / 2) else r.get (n / 2 - 1) := by
 rw [Trie.get]
 by_cases h : n = 0
 ·rw [nbeq_yes h, if_pos h]; rfl
 ·rw [nbeq_no h, if_neg h]
  by_cases h1 : n % 2 = 1
  ·rw [nbeq_yes h1, if_pos h1]; rfl
  ·rw [nbeq_no h1, if_neg h1]; rfl
theorem Trie.eta {α : Type} (t : Trie α) (n : Nat) : (Trie.node t.val t.left t.right).get n = t.get n := by
 cases t with
 | leaf => simp [Trie.val, Trie.left, Trie.right, Trie.get_node, Trie.get_leaf]
 | node v l r => rfl
theorem Trie.get_setF {α : Type} (k : Nat) : ∀ (t : Trie α) (n m : Nat) (a : α), n < k → (t.setF k n a).get m = if m = n then some a else t.get m := by
 induction k with
 | zero => intro t n m a h; omega
 | succ k ih =>
  intro t n m a h
  rw [← Trie.eta t m, Trie.setF]
  by_cases h0 : n = 0
  ·rw [nbeq_yes h0, cond_true, Trie.get_node, Trie.get_node]
   subst h0
   by_cases e : m = 0
   ·rw [if_pos e, if_pos e]
   ·simp only [if_neg e]
  ·rw [nbeq_no h0, cond_false]
   by_cases h1 : n % 2 = 1
   ·rw [nbeq_yes h1, cond_true, Trie.get_node, Trie.get_node, ih _ _ _ _ (by omega)]
    by_cases e : m = n
    ·rw [if_neg (by omega), if_pos (by omega), if_pos (by omega), if_pos e]
    ·rw [if_neg e]
     by_cases e0 : m = 0
     ·rw [if_pos e0, if_pos e0]
     ·rw [if_neg e0, if_neg e0]
      by_cases e1 : m % 2 = 1
      ·rw [if_pos e1, if_pos e1, if_neg (by omega)]
      ·rw [if_neg e1, if_neg e1]
   ·rw [nbeq_no h1, cond_false, Trie.get_node, Trie.get_node, ih _ _ _ _ (by omega)]
    by_cases e : m = n
    ·rw [if_neg (by omega), if_neg (by omega), if_pos (by omega), if_pos e]
    ·rw [if_neg e]
     by_cases e0 : m = 0
     ·rw [if_pos e0, if_pos e0]
     ·rw [if_neg e0, if_neg e0]
      by_cases e1 : m % 2 = 1
      ·rw [if_pos e1, if_pos e1]
      ·rw [if_neg e1, if_neg e1, if_neg (by omega)]
theorem Trie.get_set {α : Type} (t : Trie α) (n m : Nat) (a : α) : (t.set n a).get m = if m = n then some a else t.get m :=
 Trie.get_setF (n + 1) t n m a (by omega)
def enc : (t : Ty) → t.den → List AV
 | .bool, b => [.bool true b]
 | .int k, n => [.int true k n]
 | .byte, b => [.int true .u8 (b.toNat : Int)]
 | .str, s => [.str true s]
 | .sl t, l => [.vec t l]
 | .unit, _ => []
 | .pair a b, x => enc a x.1 ++ enc b x.2
def encL (t : Ty) (l : List t.den) : List AV := l.flatMap (enc t)
theorem enc_length : (t : Ty) → (x : t.den) → (enc t x).length = t.z
 | .bool, _ => rfl
 | .int _, _ => rfl
 | .byte, _ => rfl
 | .str, _ => rfl
 | .sl _, _ => rfl
 | .unit, _ => rfl
 | .pair a b, x => by simp only [enc, List.length_append, enc_length a, enc_length b, Ty.z]
theorem enc_all : (t : Ty) → (x : t.den) → (enc t x).all AV.cell = true
 | .bool, _ => rfl
 | .int _, _ => rfl
 | .byte, _ => rfl
 | .str, _ => rfl
 | .sl _, _ => rfl
 | .unit, _ => rfl
 | .pair a b, x => by simp only [enc, List.all_append, enc_all a, enc_all b, Bool.and_true]
theorem encL_length (t : Ty) : (l : List t.den) → (encL t l).length = l.length * t.z
 | [] => by simp [encL]
 | x :: l => by
  have := encL_length t l
  simp only [encL, List.flatMap_cons, List.length_append, enc_length, List.length_cons, Nat.add_mul] at this ⊢
  omega
theorem encL_all (t : Ty) (l : List t.den) : (encL t l).all AV.cell = true := by
 simp only [encL, List.all_flatMap, enc_all]
 simp
theorem encL_append (t : Ty) (l l' : List t.den) : encL t (l ++ l') = encL t l ++ encL t l' := by simp [encL]
theorem encL_drop (t : Ty) : (l : List t.den) → (n : Nat) → encL t (l.drop n) = (encL t l).drop (n * t.z)
 | l, 0 => by simp
 | [], n + 1 => by simp [encL]
 | x :: l, n + 1 => by
  have e : encL t (x :: l) = enc t x ++ encL t l := by simp [encL]
  have h0 : (enc t x).drop ((n + 1) * t.z) = [] := List.drop_eq_nil_of_le (by rw [enc_length, Nat.add_mul]; omega)
  have h1 : (n + 1) * t.z - t.z = n * t.z := by rw [Nat.add_mul]; omega
  rw [List.drop_succ_cons, encL_drop t l n, e, List.drop_append, enc_length, h0, List.nil_append, h1]
theorem encL_take (t : Ty) : (l : List t.den) → (n : Nat) → encL t (l.take n) = (encL t l).take (n * t.z)
 | l, 0 => by simp [encL]
 | [], n + 1 => by simp [encL]
 | x :: l, n + 1 => by
  have e : encL t (x :: l) = enc t x ++ encL t l := by simp [encL]
  have e' : encL t (x :: l.take n) = enc t x ++ encL t (l.take n) := by simp [encL]
  have h0 : (enc t x).take ((n + 1) * t.z) = enc t x := List.take_of_length_le (by rw [enc_length, Nat.add_mul]; omega)
  have h1 : (n + 1) * t.z - t.z = n * t.z := by rw [Nat.add_mul]; omega
  rw [List.take_succ_cons, e', encL_take t l n, e, List.take_append, enc_length, h0, h1]
theorem encL_get (t : Ty) (l : List t.den) (e o : Nat) (he : e < l.length) (ho : o < t.z) : (encL t l)[e * t.z + o]? = (enc t (l.getD e t.dflt))[o]? := by
 have h1 : (encL t l)[e * t.z + o]? = ((encL t l).drop (e * t.z))[o]? := by rw [List.getElem?_drop]
 rw [h1, ← encL_drop, List.drop_eq_getElem_cons he]
 have e1 : encL t (l[e] :: l.drop (e + 1)) = enc t l[e] ++ encL t (l.drop (e + 1)) := by simp only [encL, List.flatMap_cons]
 rw [e1, List.getElem?_append_left (by rw [enc_length]; exact ho), List.getD_eq_getElem?_getD, List.getElem?_eq_getElem he]
 rfl
theorem encL_elem (t : Ty) (l : List t.den) (e : Nat) (he : e < l.length) : ((encL t l).drop (e * t.z)).take t.z = enc t (l.getD e t.dflt) := by
 rw [← encL_drop, List.drop_eq_getElem_cons he]
 have e1 : encL t (l[e] :: l.drop (e + 1)) = enc t l[e] ++ encL t (l.drop (e + 1)) := by simp only [encL, List.flatMap_cons]
 rw [e1, List.take_append, enc_length, Nat.sub_self, List.take_zero, List.append_nil, List.take_of_length_le (by rw [enc_length]; exact Nat.le_refl _), List.getD_eq_getElem?_getD, List.getElem?_eq_getElem he]
 rfl
def decBool : List AV → Option (Bool × List AV)
 | .bool _ b :: l => some (b, l)
 | _ => none
def decInt (k : IntKind) : List AV → Option (Int × List AV)
 | .int _ k' n :: l => if k = k' then some (n, l) else none
 | _ => none
def decByte : List AV → Option (UInt8 × List AV)
 | .int _ k' n :: l => if k' = .u8 ∧ 0 ≤ n ∧ n < 256 then some (UInt8.ofNat n.toNat, l) else none
 | _ => none
def decStr : List AV → Option (List UInt8 × List AV)
 | .str _ s :: l => some (s, l)
 | _ => none
def decSl (t : Ty) : List AV → Option (List t.den × List AV)
 | .vec t' x :: l => if h : t' = t then some (h ▸ x, l) else none
 | .slice _ r _ _ :: l => match r with
  | none => some ([], l)
  | some _ => none
 | _ => none
def dec : (t : Ty) → List AV → Option (t.den × List AV)
 | .bool, l => decBool l
 | .int k, l => decInt k l
 | .byte, l => decByte l
 | .str, l => decStr l
 | .sl t, l => decSl t l
 | .unit, l => some ((), l)
 | .pair a b, l => match dec a l with
  | some (x, l') => match dec b l' with
   | some (y, l'') => some ((x, y), l'')
   | none => none
  | none => none
def dec1 (t : Ty) (l : List AV) : Option t.den := match dec t l with
 | some (x, []) => some x
 | _ => none
def decN (t : Ty) : Nat → List AV → Option (List t.den)
 | 0, [] => some []
 | n + 1, l => match dec t l with
  | some (x, l') => (decN t n l').map (x :: ·)
  | none => none
 | _, _ => none
def decL (t : Ty) (l : List AV) : Option (List t.den) := if t.z = 0 then none else decN t (l.length / t.z) l
def wholes : List Nat := [48]
def KT : Nat := 1073741824
def tagT (t : TypeId) : TypeId := bif wholes.contains t then t + KT else t
def unT (e : TypeId) : TypeId := bif Nat.blt e KT then e else e - KT
theorem unT_lt {e : TypeId} (h : Nat.blt e KT = true) : unT e = e := by unfold unT; rw [h]; rfl
theorem unT_gen (t K : Nat) : (bif Nat.blt (t + K) K then t + K else t + K - K) = t := by
 cases e : Nat.blt (t + K) K with
 | false => exact Nat.add_sub_cancel t K
 | true => exact absurd (show t + K < K by simpa [Nat.blt_eq] using e) (Nat.not_lt.2 (Nat.le_add_left K t))
theorem unT_tag {t : TypeId} (h : Nat.blt t KT = true) : unT (tagT t) = t := by
 unfold tagT
 cases wholes.contains t
 ·exact unT_lt h
 ·exact unT_gen t KT
inductive AObj where
 | dead
 | cells (cs : List AV) (elem : TypeId) (ro : Bool)
 | vec (t : Ty) (l : List t.den) (elem : TypeId) (ro : Bool)
 | fro (t : Ty) (l : List t.den) (elem : TypeId)
def AObj.row : AObj → Option (List AV × TypeId × Bool)
 | .dead => none
 | .cells cs e ro => some (cs, e, ro)
 | .vec t l e ro => some (encL t l, e, ro)
 | .fro t l e => some (encL t l, e, true)
def AObj.mut : AObj → Bool
 | .cells _ _ ro => !ro
 | .vec _ _ _ ro => !ro
 | _ => false
structure Heap where
 n : Nat
 t : Trie AObj
 w : Trie Nat := .leaf
def Heap.empty : Heap := { n := 0, t := .leaf }
def Heap.gen (H : Heap) (g : Nat) : Nat := match H.w.get g with
 | some k => k
 | none => 0
def Heap.get (H : Heap) (g : Nat) : Option AObj := H.t.get g
def Heap.set (H : Heap) (g : Nat) (o : AObj) : Heap := { n := H.n, t := H.t.set g o, w := H.w.set g (H.gen g + 1) }
def Heap.push (H : Heap) (o : AObj) : Heap := { n := H.n + 1, t := H.t.set H.n o, w := H.w }
theorem Heap.get_set (H : Heap) (g h : Nat) (o : AObj) : (H.set g o).get h = if h = g then some o else H.get h := Trie.get_set ..
theorem Heap.get_push (H : Heap) (h : Nat) (o : AObj) : (H.push o).get h = if h = H.n then some o else H.get h := Trie.get_set ..
def Heap.row (H : Heap) (g : Nat) : Option (List AV × TypeId × Bool) := (H.get g).bind AObj.row
theorem Heap.row_set (H : Heap) (g h : Nat) (o : AObj) : (H.set g o).row h = if h = g then o.row else H.row h := by
 unfold Heap.row
 rw [Heap.get_set]
 split <;> rfl
theorem Heap.row_push (H : Heap) (h : Nat) (o : AObj) : (H.push o).row h = if h = H.n then o.row else H.row h := by
 unfold Heap.row
 rw [Heap.get_push]
 split <;> rfl
@[simp] theorem Heap.n_set (H : Heap) (g : Nat) (o : AObj) : (H.set g o).n = H.n := rfl
@[simp] theorem Heap.n_push (H : Heap) (o : AObj) : (H.push o).n = H.n + 1 := rfl
structure Tm where
 n : Nat
 t : Trie AV
def Tm.get (m : Tm) (i : Nat) : Option AV := m.t.get i
def Tm.put (m : Tm) (i : Nat) (v : AV) : Option Tm := bif Nat.blt i m.n then some { n := m.n, t := m.t.set i v } else none
def Tm.dst (m : Tm) : Option Nat → AV → Option Tm
 | none, _ => some m
 | some i, v => m.put i v
def isAgg? (P : Program) (t : TypeId) : Option Bool :=
 match P.underlying t with
 | none => none
 | some (.struct _) => some true
 | some (.array _ _) => some true
 | some _ => some false
def size? (P : Program) (t : TypeId) : Option Nat := (P.info? t).map (·.size)
def bytes? (P : Program) (t : TypeId) : Option Nat := (P.info? t).map (·.bytes)
def ofCell : Value → Option AV
 | .bool b => some (.bool false b)
 | .int k n => some (.int false k n)
 | .string s => some (.str false s.data.toList)
 | .pointer none => some (.ptr false none)
 | .slice none 0 0 => some (.slice false none 0 0)
 | .map none => some (.map none)
 | .nilFunc => some .nilFunc
 | .nilIface => some .nilIface
 | _ => none
def ofCells : List Value → Option (List AV)
 | [] => some []
 | v :: l => match ofCell v, ofCells l with
  | some a, some as => some (a :: as)
  | _, _ => none
def ofConst : Value → Option AV
 | .agg cs => (ofCells cs.toList).map .agg
 | .tuple vs => if vs.size = 0 then some (.tup []) else none
 | v => ofCell v
def zero? (P : Program) (t : TypeId) : Option AV := (P.info? t).bind fun i => i.zero.bind ofConst
def opnd (m : Tm) : Operand → Option AV
 | .tmp t => m.get t
 | .const v => ofConst v
 | .global _ => none
 | .func f => some (.func (.func f) [] [])
def opnds (m : Tm) : List Operand → Option (List AV)
 | [] => some []
 | x :: l => match opnd m x, opnds m l with
  | some a, some as => some (a :: as)
  | _, _ => none
def splice (cs : List AV) (i : Nat) (vs : List AV) : List AV := cs.take i ++ vs ++ cs.drop (i + vs.length)
def loadV (P : Program) (H : Heap) (t : TypeId) (r : Ref) : Option AV :=
 match H.row r.g with
 | some (cs, _, _) =>
  match isAgg? P t with
  | some true => match size? P t with
   | some s => if r.i + s ≤ cs.length then some (.agg ((cs.drop r.i).take s)) else none
   | none => none
  | some false => cs[r.i]?
  | none => none
 | none => none
def AObj.put (o : AObj) (cs : List AV) (e : TypeId) (r : Ref) (vs : List AV) : AObj :=
 match o with
 | .vec t l e _ => if r.z = t.z ∧ r.e < l.length ∧ r.o + vs.length ≤ t.z then match dec1 t (splice (enc t (l.getD r.e t.dflt)) r.o vs) with
   | some x => .vec t (l.set r.e x) e false
   | none => .cells (splice cs r.i vs) e false
  else .cells (splice cs r.i vs) e false
 | _ => .cells (splice cs r.i vs) e false
def loadE (P : Program) (u : TypeId) (t : Ty) (l : List t.den) (e o : Nat) : Option AV :=
 match isAgg? P u, size? P u with
 | some true, some s => if e < l.length ∧ o + s ≤ t.z then some (.agg (((enc t (l.getD e t.dflt)).drop o).take s)) else none
 | some false, some _ => if e < l.length ∧ o < t.z then (enc t (l.getD e t.dflt))[o]? else none
 | _, _ => none
def storeV (P : Program) (H : Heap) (t : TypeId) (r : Ref) (v : AV) : Option Heap :=
 match H.get r.g with
 | some o => match o.row with
  | some (cs, e, false) => match size? P t with
   | some s => if v.cells.length = s ∧ r.i + s ≤ cs.length ∧ v.cells.all AV.cell = true then some (H.set r.g (o.put cs e r v.cells)) else none
   | none => none
  | _ => none
 | none => none
def arith (t : Bool) (op : BinOp) (k : IntKind) (a b : Int) : Option AV :=
 match op with
 | .add => some (.int t k (k.wrap (a + b)))
 | .sub => some (.int t k (k.wrap (a - b)))
 | .mul => some (.int t k (k.wrap (a * b)))
 | .quo => if b = 0 then none else some (.int t k (k.wrap (a.tdiv b)))
 | .rem => if b = 0 then none else some (.int t k (a.tmod b))
 | .and => some (.int t k (k.wrap (BitVec.ofInt k.bits a &&& BitVec.ofInt k.bits b).toNat))
 | .or => some (.int t k (k.wrap (BitVec.ofInt k.bits a ||| BitVec.ofInt k.bits b).toNat))
 | .xor => some (.int t k (k.wrap (BitVec.ofInt k.bits a ^^^ BitVec.ofInt k.bits b).toNat))
 | .andNot => some (.int t k (k.wrap (BitVec.ofInt k.bits a &&& ~~~ (BitVec.ofInt k.bits b)).toNat))
 | .eql => some (.bool t (a == b))
 | .neq => some (.bool t (a != b))
 | .lss => some (.bool t (decide (a < b)))
 | .leq => some (.bool t (decide (a ≤ b)))
 | .gtr => some (.bool t (decide (a > b)))
 | .geq => some (.bool t (decide (a ≥ b)))
 | _ => none
def shiftA (t : Bool) (op : BinOp) (k : IntKind) (a b : Int) : Option AV :=
 if b < 0 then none else
 match op with
 | .shl => some (.int t k (k.wrap (a * 2 ^ min b.toNat k.bits)))
 | .shr => some (.int t k (a.fdiv (2 ^ min b.toNat k.bits)))
 | _ => none
def strA (t : Bool) (op : BinOp) (a b : List UInt8) : Option AV :=
 match op with
 | .add => if ((a.length + b.length : Nat) : Int) ≤ 9223372036854775807 then some (.str t (a ++ b)) else none
 | .eql => some (.bool t (a == b))
 | .neq => some (.bool t (!(a == b)))
 | .lss => some (.bool t (Op.bytesLess a b))
 | .leq => some (.bool t (Op.bytesLess a b || a == b))
 | .gtr => some (.bool t (!(Op.bytesLess a b || a == b)))
 | .geq => some (.bool t (!(Op.bytesLess a b)))
 | _ => none
def kindOf (P : Program) (t : TypeId) : Nat :=
 match P.underlying t with
 | some .bool => 1
 | some (.pointer _) => 2
 | some (.slice _) => 3
 | some (.map _ _) => 4
 | some (.func _ _ _) => 5
 | some (.int _) => 6
 | some .string => 7
 | some (.struct _) => 8
 | _ => 0
def fieldEq (P : Program) (t : TypeId) : AV → AV → Option (Bool × Bool)
 | .bool u a, .bool u' b => if kindOf P t = 1 then some (u || u', a == b) else none
 | .int u k a, .int u' k' b => if kindOf P t = 6 ∧ k = k' then some (u || u', a == b) else none
 | .str u a, .str u' b => if kindOf P t = 7 then some (u || u', a == b) else none
 | _, _ => none
def fieldsEq (P : Program) : Nat → List Field → List AV → List AV → Option (Bool × Bool)
 | _, [], [], [] => some (false, true)
 | off, f :: fs, x :: xs, y :: ys =>
  if f.offset = off ∧ (f.name == "_") = false then
   match fieldEq P f.type x y, fieldsEq P (off + 1) fs xs ys with
   | some (u, a), some (u', b) => some (u || u', a && b)
   | _, _ => none
  else none
 | _, _, _, _ => none
def structEq (P : Program) (t : TypeId) (xs ys : List AV) : Option (Bool × Bool) :=
 match P.underlying t with
 | some (.struct fs) => if P.stoodInHeld t = false ∧ P.eqGuardType P.depth t = false then fieldsEq P 0 fs.toList xs ys else none
 | _ => none
def sameA (P : Program) (t : TypeId) (x y : AV) : Option (Bool × Bool) :=
 match x, y with
 | .bool u a, .bool u' b => if kindOf P t = 1 then some (u || u', a == b) else none
 | .ptr _ none, .ptr _ b => if kindOf P t = 2 then some (false, b.isNone) else none
 | .ptr _ (some _), .ptr _ none => if kindOf P t = 2 then some (false, false) else none
 | .map none, .map b => if kindOf P t = 4 then some (false, b.isNone) else none
 | .map (some _), .map none => if kindOf P t = 4 then some (false, false) else none
 | .nilFunc, .nilFunc => if kindOf P t = 5 then some (false, true) else none
 | .nilFunc, .func _ _ _ => if kindOf P t = 5 then some (false, false) else none
 | .func _ _ _, .nilFunc => if kindOf P t = 5 then some (false, false) else none
 | .agg a, .agg b => structEq P t a b
 | _, _ => none
def binA (P : Program) (op : BinOp) (t : TypeId) (x y : AV) : Option AV :=
 match x, y with
 | .int u k a, .int u' k' b => match op with
  | .shl | .shr => shiftA (u || u') op k a b
  | _ => if k = k' then arith (u || u') op k a b else none
 | .str u a, .str u' b => strA (u || u') op a b
 | x, y => match op with
  | .eql => (sameA P t x y).map fun r => .bool r.1 r.2
  | .neq => (sameA P t x y).map fun r => .bool r.1 (!r.2)
  | _ => none
def unA (op : UnOp) (x : AV) : Option AV :=
 match op, x with
 | .neg, .int t k n => some (.int t k (k.wrap (0 - n)))
 | .xor, .int t k n => arith t .xor k (if k.signed then -1 else k.max) n
 | .not, .bool t b => some (.bool t !b)
 | _, _ => none
def bytesAV (t : Bool) (s : List UInt8) : List AV := s.map fun b => .int t .u8 b.toNat
def strOfAV : List AV → Option (List UInt8)
 | [] => some []
 | .int _ .u8 n :: l => match strOfAV l with
  | some s => some (UInt8.ofNat n.toNat :: s)
  | none => none
 | _ :: _ => none
def rowAt (H : Heap) (r : Ref) (n : Nat) : Option (List AV) :=
 match H.row r.g with
 | some (cs, _, _) => if r.i + n ≤ cs.length then some ((cs.drop r.i).take n) else none
 | none => none
inductive Lot where
 | cells (l : List AV)
 | vec (t : Ty) (l : List t.den)
def Lot.list : Lot → List AV
 | .cells l => l
 | .vec t l => encL t l
def Lot.ok : Lot → Bool
 | .cells l => l.all AV.cell
 | _ => true
def AObj.srcAt (o : AObj) (r : Ref) (n s : Nat) : Option Lot :=
 match o with
 | .vec t l _ _ => if r.z = t.z ∧ r.o = 0 ∧ s = t.z ∧ r.e + n ≤ l.length then some (.vec t ((l.drop r.e).take n)) else none
 | .fro t l _ => if r.z = t.z ∧ r.o = 0 ∧ s = t.z ∧ r.e + n ≤ l.length then some (.vec t ((l.drop r.e).take n)) else none
 | o => match o.row with
  | some (cs, _, _) => if r.i + n * s ≤ cs.length then some (.cells ((cs.drop r.i).take (n * s))) else none
  | none => none
def strSrc (t : Bool) (s : List UInt8) : Lot := bif t then .vec .byte s else .cells (bytesAV false s)
def joinRow (a b : Lot) (e : TypeId) : AObj :=
 match a, b with
 | .vec t l, .vec t' l' => if h : t' = t then .vec t (l ++ (h ▸ l')) e false else .cells (a.list ++ b.list) e false
 | .vec t l, .cells cs => match decL t cs with
  | some l' => .vec t (l ++ l') e false
  | none => .cells (a.list ++ b.list) e false
 | .cells cs, .vec t l' => match decL t cs with
  | some l => .vec t (l ++ l') e false
  | none => .cells (a.list ++ b.list) e false
 | a, b => .cells (a.list ++ b.list) e false
def strOfSrc : Lot → Option (Bool × List UInt8)
 | .vec .byte l => some (true, l)
 | .vec (.int .u8) l => some (true, l.map fun n => UInt8.ofNat (Int.toNat n))
 | .cells l => (strOfAV l).map fun x => (l.any AV.tag, x)
 | _ => none
def isU8 (P : Program) (e : TypeId) : Bool :=
 match P.underlying e with
 | some (.int .u8) => Nat.blt e KT
 | _ => false
def sliceSrc (H : Heap) (r : Option Ref) (n s : Nat) : Option Lot :=
 match r with
 | none => some (.cells [])
 | some r => match H.get r.g with
  | some o => o.srcAt r n s
  | none => none
def lonely (H : Heap) (r : Ref) : Option (Nat × TypeId) := match H.get r.g with
 | some (.cells cs e false) => if KT ≤ e ∧ r.i = 0 then some (cs.length, unT e) else none
 | _ => none
def convA (P : Program) (src dst : TypeId) (x : AV) (H : Heap) : Option (AV × Heap) :=
 match P.underlying src, P.underlying dst, x with
 | some (.int _), some (.int k), .int t _ n => some (.int t k (k.wrap n), H)
 | some .string, some .string, .str t s => some (.str t s, H)
 | some .string, some (.slice e), .str t s =>
  if isU8 P e = true ∧ s.length ≤ 140737488355328 then some (.slice t (some ⟨H.n, 0, 1, 0⟩) s.length 1, H.push (joinRow (.cells []) (strSrc t s) e)) else none
 | some (.slice e), some .string, .slice t r n sz =>
  if isU8 P e = true ∧ sz = 1 then
   match sliceSrc H r n 1 with
   | some cs => (strOfSrc cs).map fun s => (.str (t || s.1) s.2, H)
   | none => none
  else none
 | some (.slice e), some .string, .vec .byte l => if isU8 P e = true then some (.str true l, H) else none
 | some (.slice _), some (.slice e'), .slice t (some r) n sz =>
  if src = dst ∧ isU8 P e' = true ∧ 1 ≤ n then
   match H.get r.g with
   | some o => if o.mut = true then some (.slice t (some r) n sz, H.set r.g o) else none
   | none => none
  else none
 | some (.pointer t), some .unsafePointer, .ptr u (some r) => match lonely H r, size? P t with
  | some (n, _), some s => if 0 < n ∧ s ≠ 0 then some (.ptr u (some r), H) else none
  | _, _ => none
 | some .unsafePointer, some (.pointer t), .ptr u (some r) => match lonely H r, size? P t with
  | some (n, e), some _ => if liesAt P P.depth e (n / P.cellsOf e) 0 t 1 = true then some (.ptr u (some r), H) else none
  | _, _ => none
 | _, _, _ => none
def fieldOf (P : Program) (s : TypeId) (f : Nat) : Option Field :=
 match P.underlying s with
 | some (.struct fields) => fields[f]?
 | _ => none
def partA (P : Program) (t : TypeId) (cs : List AV) (off : Nat) : Option AV :=
 match isAgg? P t, size? P t with
 | some true, some s => if off + s ≤ cs.length then some (.agg ((cs.drop off).take s)) else none
 | some false, some _ => cs[off]?
 | _, _ => none
def fillA (place : Nat → Option (Nat × Nat)) (cells : List AV) : List (Nat × AV) → Option (List AV)
 | [] => some cells
 | (i, v) :: rest =>
  match place i with
  | none => none
  | some (off, size) => if v.cells.length = size ∧ off + size ≤ cells.length then fillA place (splice cells off v.cells) rest else none
def placesA (P : Program) : List Field → Option (List (Nat × Nat))
 | [] => some []
 | f :: fs => match size? P f.type, placesA P fs with
  | some s, some l => some ((f.offset, s) :: l)
  | _, _ => none
def partsA (m : Tm) : List (Nat × Operand) → Option (List (Nat × AV))
 | [] => some []
 | (i, x) :: l => match opnd m x, partsA m l with
  | some a, some as => some ((i, a) :: as)
  | _, _ => none
def zerosA (z : List AV) : Nat → List AV
 | 0 => []
 | n + 1 => z ++ zerosA z n
def sliceElem (P : Program) (t : TypeId) : Option TypeId :=
 match P.underlying t with
 | some (.slice e) => bif Nat.blt e KT then some e else none
 | _ => none
def boundOf (d : Nat) : Option AV → Option Int
 | none => some (d : Int)
 | some (.int _ _ n) => some n
 | _ => none
def tagOf : Option AV → Bool
 | some v => v.tag
 | none => false
def optOpnd (m : Tm) : Option Operand → Option (Option AV)
 | none => some none
 | some x => (opnd m x).map some
def sliceOp (P : Program) (t : TypeId) (x : AV) (lo hi : Option AV) : Option AV :=
 match P.underlying t, x with
 | some .string, .str t s => match boundOf 0 lo, boundOf s.length hi with
  | some l, some h => if 0 ≤ l ∧ l ≤ h ∧ h ≤ (s.length : Int) then some (.str (t || tagOf lo || tagOf hi) ((s.take h.toNat).drop l.toNat)) else none
  | _, _ => none
 | some (.slice e), .slice t r n sz => match boundOf 0 lo, boundOf n hi with
  | some l, some h =>
   if 0 ≤ l ∧ l ≤ h ∧ h ≤ (n : Int) then
    match size? P e with
    | none => none
    | some s => match r with
     | none => some (.slice t none 0 sz)
     | some r => if s = sz then some (.slice (t || tagOf lo || tagOf hi) (some (r.el l.toNat sz)) (h - l).toNat sz) else none
   else none
  | _, _ => none
 | some (.slice e), .vec t s => match boundOf 0 lo, boundOf s.length hi with
  | some l, some h => if 0 ≤ l ∧ l ≤ h ∧ h ≤ (s.length : Int) ∧ size? P e = some t.z then some (.vec t ((s.take h.toNat).drop l.toNat)) else none
  | _, _ => none
 | _, _ => none
def sliceOp3 (P : Program) (t : TypeId) (x : AV) (lo hi mx : Option AV) : Option AV :=
 match P.underlying t, x with
 | some (.slice e), .slice t _ _ sz => match boundOf 0 lo, boundOf 0 hi, boundOf 0 mx with
  | some l, some h, some m => if l = 0 ∧ h = 0 ∧ m = 0 ∧ size? P e ≠ none ∧ hi.isSome = true then some (.slice t none 0 1) else none
  | _, _, _ => none
 | some (.slice e), .vec t _ => match boundOf 0 lo, boundOf 0 hi, boundOf 0 mx with
  | some l, some h, some m => if l = 0 ∧ h = 0 ∧ m = 0 ∧ size? P e ≠ none ∧ hi.isSome = true then some (.slice false none 0 1) else none
  | _, _, _ => none
 | _, _ => none
def indexAddrA (P : Program) (T : TypeId) (x ix : AV) : Option AV :=
 match P.underlying T, x, ix with
 | some (.slice e), .vec t l, .int _ _ i => if size? P e = some t.z ∧ 0 ≤ i ∧ i < (l.length : Int) then some (.eptr t l i.toNat 0) else none
 | some (.slice e), .slice t (some r) n _, .int u _ i => match size? P e with
  | some s => if 0 ≤ i ∧ i < (n : Int) then some (.ptr (t || u) (some (r.el i.toNat s))) else none
  | none => none
 | some (.array n e), .ptr t (some r), .int u _ i => match size? P e with
  | some s => if 0 ≤ i ∧ i < (n : Int) then some (.ptr (t || u) (some (r.elA t i.toNat s))) else none
  | none => none
 | some (.array n e), .eptr t l q p, .int _ _ i => match size? P e with
  | some s => if 0 ≤ i ∧ i < (n : Int) then some (.eptr t l q (p + i.toNat * s)) else none
  | none => none
 | _, _, _ => none
def indexA (P : Program) (t : TypeId) (x ix : AV) : Option AV :=
 match P.underlying t, x, ix with
 | some .string, .str t s, .int u _ i => if 0 ≤ i then (s[i.toNat]?).map fun b => .int (t || u) .u8 b.toNat else none
 | some (.array n e), .agg cs, .int u _ i => match size? P e with
  | some s => if 0 ≤ i ∧ i < (n : Int) then (partA P e cs (i.toNat * s)).map (AV.hot u) else none
  | none => none
 | _, _, _ => none
def lenA (P : Program) (t : TypeId) (x : AV) : Option AV :=
 match P.underlying t, x with
 | some .string, .str t s => some (.int t .i64 s.length)
 | some (.slice _), .slice t _ n _ => some (.int t .i64 n)
 | some (.slice _), .vec _ l => some (.int true .i64 l.length)
 | some (.array n _), _ => some (.int false .i64 n)
 | _, _ => none
def mx2 (x y : Int) : Int := if y > x then y else x
def mn2 (x y : Int) : Int := if y < x then y else x
theorem mn2_eq (x y : Int) : mn2 x y = min x y := by unfold mn2; split <;> omega
def max2A : AV → AV → Option AV
 | .int t k x, .int u _ y => some (.int (t || u) k (mx2 x y))
 | _, _ => none
def min2A : AV → AV → Option AV
 | .int t k x, .int u _ y => some (.int (t || u) k (mn2 x y))
 | _, _ => none
def foldA (f : AV → AV → Option AV) : AV → List AV → Option AV
 | x, [] => some x
 | x, y :: l => match f x y with
  | some z => foldA f z l
  | none => none
def srcCells (H : Heap) (sz : Nat) : AV → Option (Lot × Nat × Bool)
 | .slice _ none _ _ => some (.cells [], 0, false)
 | .slice t (some r) n z => if z = sz then (sliceSrc H (some r) n sz).map fun l => (l, n, t) else none
 | .vec t l => if sz = t.z then some (.vec t l, l.length, true) else none
 | .str t s => if sz = 1 then some (strSrc t s, s.length, t) else none
 | _ => none
def appendA (P : Program) (t : TypeId) (s x : AV) (H : Heap) : Option (AV × Heap) :=
 match sliceElem P t with
 | none => none
 | some e => match size? P e, bytes? P e, zero? P e with
  | some sz, some by_, some ze =>
   if sz = 0 ∨ by_ = 0 ∨ ze.cells.length ≠ sz then none else
   match srcCells H sz x with
   | none => none
   | some (new, n, tn) =>
    if n = 0 ∧ tn = false then
     match s with
     | .slice t r m z => if (r.isSome → z = sz) then some (.slice t r m z, H) else none
     | _ => none
    else match s with
    | .slice _ none _ _ => if n * by_ ≤ 140737488355328 ∧ new.ok = true then some (.slice tn (some ⟨H.n, 0, sz, 0⟩) n sz, H.push (joinRow (.cells []) new e)) else none
    | .slice t (some r) m z =>
     if z = sz then
      match H.row r.g, sliceSrc H (some r) m sz with
      | some (_, e0, false), some old =>
       if ((m + n) * by_ ≤ 140737488355328 ∧ e0 = e) ∧ new.ok = true then some (.slice (t || tn) (some ⟨H.n, 0, sz, 0⟩) (m + n) sz, (H.set r.g .dead).push (joinRow old new e)) else none
      | _, _ => none
     else none
    | _ => none
  | _, _, _ => none
def zeroTy : List AV → Option ((t : Ty) × t.den)
 | [.int _ .u8 (.ofNat 0)] => some ⟨.byte, (0 : UInt8)⟩
 | [.int _ k (.ofNat 0)] => some ⟨.int k, (0 : Int)⟩
 | [.str _ []] => some ⟨.str, []⟩
 | [.bool _ false] => some ⟨.bool, false⟩
 | _ => none
def makeSliceA (P : Program) (t : TypeId) (l c : AV) (H : Heap) : Option (AV × Heap) :=
 match sliceElem P t, l, c with
 | some e, .int tl .i64 l, .int tc .i64 c => match size? P e, bytes? P e, zero? P e with
  | some sz, some by_, some z =>
   if sz ≠ 0 ∧ z.cells.length = sz ∧ 0 ≤ l ∧ l ≤ c ∧ c * by_ ≤ 140737488355328 ∧ c ≤ 140737488355328 ∧ z.cells.all AV.cell = true then
    match (match tl with
     | true => zeroTy z.cells
     | false => none) with
    | some ⟨ty, d⟩ => some (.slice true (some ⟨H.n, 0, sz, 0⟩) l.toNat sz, H.push (.vec ty (List.replicate l.toNat d) e false))
    | none => some (.slice (tl || tc) (some ⟨H.n, 0, sz, 0⟩) l.toNat sz, H.push (.cells (zerosA z.cells l.toNat) e false)) else none
  | _, _, _ => none
 | _, _, _ => none
def thawAt (t t' : Ty) (l : List t'.den) (r : Ref) (n z : Nat) : Option AV :=
 if t' = t ∧ r.z = t'.z ∧ r.o = 0 ∧ z = t'.z ∧ r.e + n ≤ l.length then some (.vec t' ((l.drop r.e).take n)) else none
def freezeV (f : Nat → List AV → Heap → Option (List AV × Heap)) (t : Ty) (v : AV) (H : Heap) : Option (AV × Heap) :=
 match v with
 | .slice _ (some r) n z => match H.get r.g with
  | some (.fro t' l _) => (thawAt t t' l r n z).map (·, H)
  | some (.vec t' l e false) => (thawAt t t' l r n z).map (·, H.set r.g (.fro t' l e))
  | some (.cells cs _ false) => match f (cs.length / t.z) cs H with
   | some (cs', H') => match decL t cs', H'.get r.g with
    | some l, some (.cells cs2 e2 false) => if cs2.length = cs'.length then (thawAt t t l r n z).map (·, H'.set r.g (.fro t l e2)) else none
    | _, _ => none
   | none => none
  | _ => none
 | v => some (v, H)
def meltN (f : List AV → Heap → Option (List AV × List AV × Heap)) : Nat → List AV → Heap → Option (List AV × Heap)
 | 0, [], H => some ([], H)
 | n + 1, l, H => match f l H with
  | some (d, l', H') => match meltN f n l' H' with
   | some (d', H'') => some (d ++ d', H'')
   | none => none
  | none => none
 | _, _, _ => none
def meltT : (t : Ty) → List AV → Heap → Option (List AV × List AV × Heap)
 | .sl t, v :: l, H => (freezeV (meltN (meltT t)) t v H).map fun r => ([r.1], l, r.2)
 | .pair a b, l, H => match meltT a l H with
  | some (d, l', H') => match meltT b l' H' with
   | some (d', l'', H'') => some (d ++ d', l'', H'')
   | none => none
  | none => none
 | .unit, l, H => some ([], l, H)
 | .bool, v :: l, H => some ([v], l, H)
 | .int _, v :: l, H => some ([v], l, H)
 | .byte, v :: l, H => some ([v], l, H)
 | .str, v :: l, H => some ([v], l, H)
 | _, [], _ => none
def Ty.deep : Ty → Bool
 | .sl _ => true
 | .pair a b => a.deep || b.deep
 | _ => false
def tysOf (f : TypeId → Option Ty) : List Field → Option Ty
 | [] => none
 | [x] => f x.type
 | x :: l => match f x.type, tysOf f l with
  | some a, some b => some (.pair a b)
  | _, _ => none
def tyOf (P : Program) : Nat → TypeId → Option Ty
 | 0, _ => none
 | n + 1, t => match P.underlying t with
  | some .bool => some .bool
  | some (.int .u8) => some .byte
  | some (.int k) => some (.int k)
  | some .string => some .str
  | some (.slice e) => (tyOf P n e).map .sl
  | some (.struct fs) => tysOf (tyOf P n) fs.toList
  | _ => none
def deepOf (P : Program) (e : TypeId) : Option Ty := match kindOf P e with
 | 3 => tyOf P 9 e
 | 8 => match tyOf P 9 e with
  | some t => if t.deep = true ∨ 2 ≤ t.z then some t else none
  | none => none
 | _ => none
def settle (P : Program) (g : Nat) (e : TypeId) (H : Heap) : Option Heap := match deepOf P e with
 | none => some H
 | some t => match H.get g with
  | some (.cells cs _ false) => match meltN (meltT t) (cs.length / t.z) cs H with
   | some (cs', H') => match decL t cs', H'.get g with
    | some l, some (.cells cs2 e2 false) => if cs2.length = cs'.length then some (H'.set g (.vec t l e2 false)) else none
    | _, _ => none
   | none => none
  | _ => none
inductive Got where
 | val (v : AV) (H : Heap)
 | enter (f : FuncId) (args : List AV)
def srcKind (P : Program) (u : TypeId) : AV → Bool
 | .str _ _ => kindOf P u == 7
 | .slice _ _ _ _ => kindOf P u == 3
 | .vec _ _ => kindOf P u == 3
 | _ => false
def dataPtr (t : Bool) (r : Option Ref) (n z : Nat) : Option AV := match r with
 | none => if z = 0 then some (.ptr t none) else none
 | some r => if 0 < n then some (.ptr t (some r)) else none
def rawStr (P : Program) (pt : TypeId) (r : Option Ref) (n : Int) (H : Heap) : Option (AV × Heap) := match r with
 | none => if n = 0 then some (.str false [], H) else none
 | some r => match P.underlying pt with
  | some (.pointer e) => if isU8 P e = true ∧ P.cellsOf e = 1 ∧ r.z = 1 ∧ r.o = 0 then
    match H.get r.g with
    | some (.vec .byte l e' false) => if e' = e ∧ 0 < n ∧ r.e + n.toNat ≤ l.length ∧ n ≤ 140737488355328 then some (.str true ((l.drop r.e).take n.toNat), H.set r.g (.fro .byte l e')) else none
    | _ => none
   else none
  | _ => none
def clearA (P : Program) (t : TypeId) (r : Ref) (n z : Nat) (H : Heap) : Option Heap :=
 match sliceElem P t with
 | none => none
 | some e => match size? P e, zero? P e with
  | some s, some ze => if s = z ∧ s ≠ 0 ∧ ze.cells.length = s ∧ ze.cells.all AV.cell = true ∧ r.z = z ∧ r.o = 0 then
    match H.get r.g with
    | some (.vec ty l e' false) => match dec1 ty ze.cells with
     | some d => if 0 < n ∧ r.e + n ≤ l.length then some (H.set r.g (.vec ty (l.take r.e ++ List.replicate n d ++ l.drop (r.e + n)) e' false)) else none
     | none => none
    | _ => none
   else none
  | _, _ => none
def builtinA (P : Program) (b : Builtin) (ts : List TypeId) (args : List AV) (H : Heap) : Option Got :=
 match b, ts, args with
 | .len, t :: _, [x] => (lenA P t x).map fun v => .val v H
 | .max, _, x :: l => (foldA max2A x l).map fun v => .val v H
 | .min, _, x :: l => (foldA min2A x l).map fun v => .val v H
 | .append, [t, u], [s, x] => if srcKind P u x = true then (appendA P t s x H).map fun r => .val r.1 r.2 else none
 | .unsafeSliceData, _ :: _, [.slice t r n z] => (dataPtr t r n z).map fun v => .val v H
 | .unsafeString, [pt, _], [.ptr _ r, .int _ .i64 n] => (rawStr P pt r n H).map fun x => .val x.1 x.2
 | .clear, [t], [.slice _ (some r) n z] => (clearA P t r n z H).map fun H' => .val (.tup []) H'
 | _, _, _ => none
def callA (P : Program) (c : Call) (m : Tm) (H : Heap) : Option Got :=
 match opnds m c.args.toList with
 | none => none
 | some args => match c.callee with
  | .builtin b => builtinA P b c.argTypes.toList args H
  | .value f => match opnd m f with
   | some (.func (.func g) first cap) => match P.funcs[g]? with
    | some fn => if fn.name ≠ "runtime.NumGoroutine" ∧ fn.body.isSome = true then some (.enter g (first ++ args ++ cap)) else
     if fn.body.isNone = true ∧ fn.name = "internal/abi.NoEscape" ∧ fn.origin = "" then
      match first ++ args ++ cap with
      | [x] => some (.val x H)
      | _ => none
     else none
    | none => none
   | _ => none
  | .invoke _ _ => none
def isTmp : Operand → Bool
 | .tmp _ => true
 | _ => false
def ptrSz (P : Program) (t : TypeId) : Bool := match P.underlying t with
 | some (.pointer e) => (size? P e).isSome
 | _ => false
def twin (P : Program) (H : Heap) (op : BinOp) (t : TypeId) (x y : Operand) (p q : AV) : Option AV :=
 match isTmp x && (isTmp y && Nat.beq (kindOf P t) 2) with
 | true => match p, q with
  | .ptr _ (some r), .ptr _ (some r') => if r = r' ∧ (H.row r.g).isSome = true ∧ ptrSz P t = true then match op with
    | .eql => some (.bool false true)
    | .neq => some (.bool false false)
    | _ => none
   else none
  | _, _ => none
 | false => none
def opA (P : Program) (o : Op) (m : Tm) (H : Heap) : Option Got :=
 match o with
 | .move x | .assign x => (opnd m x).map fun v => .val v H
 | .pick c a b => match opnd m c with
  | some (.bool _ true) => (opnd m a).map fun v => .val v H
  | some (.bool _ false) => (opnd m b).map fun v => .val v H
  | _ => none
 | .alloc t => match zero? P t with
  | some z => if z.cells.all AV.cell = true ∧ Nat.blt t KT = true then some (.val (.ptr false (some ⟨H.n, 0, 0, 0⟩)) (H.push (.cells z.cells (tagT t) false))) else none
  | none => none
 | .box t x => match opnd m x with
  | some v => if v.cells.all AV.cell = true ∧ Nat.blt t KT = true then some (.val (.ptr false (some ⟨H.n, 0, 0, 0⟩)) (H.push (.cells v.cells (tagT t) false))) else none
  | none => none
 | .build t parts => match zero? P t, partsA m parts.toList, P.underlying t with
  | some z, some ps, some (.struct fields) => match placesA P fields.toList with
   | some pl => (fillA (fun i => pl[i]?) z.cells ps).map fun cs => .val (.agg cs) H
   | none => none
  | some z, some ps, some (.array _ e) => match size? P e with
   | some s => (fillA (fun i => some (i * s, s)) z.cells ps).map fun cs => .val (.agg cs) H
   | none => none
  | _, _, _ => none
 | .buildSlice t n parts => match sliceElem P t, partsA m parts.toList with
  | some e, some ps => match size? P e, zero? P e with
   | some s, some z =>
    if s ≠ 0 ∧ n * s ≤ 16777216 ∧ z.cells.length = s then
     match fillA (fun i => some (i * s, s)) (zerosA z.cells n) ps with
     | some cs => if cs.all AV.cell = true ∧ cs.length = n * s then (settle P H.n e (H.push (.cells cs e false))).map fun H' => .val (.slice false (some ⟨H.n, 0, s, 0⟩) n s) H' else none
     | none => none
    else none
   | _, _ => none
  | _, _ => none
 | .load t a => match opnd m a with
  | some (.ptr u (some r)) => (loadV P H t r).map fun v => .val (v.hot u) H
  | some (.eptr t' l e o) => (loadE P t t' l e o).map fun v => .val v H
  | _ => none
 | .store t a x => match opnd m a, opnd m x with
  | some (.ptr _ (some r)), some v => (storeV P H t r v).map fun H' => .val (.tup []) H'
  | _, _ => none
 | .nilCheck x => match opnd m x with
  | some (.ptr t (some r)) => some (.val (.ptr t (some r)) H)
  | some (.eptr t l e o) => some (.val (.eptr t l e o) H)
  | some (.func (.func g) a b) => some (.val (.func (.func g) a b) H)
  | _ => none
 | .binOp op t x y _ => match opnd m x, opnd m y with
  | some a, some b => match twin P H op t x y a b with
   | some v => some (.val v H)
   | none => (binA P op t a b).map fun v => .val v H
  | _, _ => none
 | .unOp op _ x => match opnd m x with
  | some a => (unA op a).map fun v => .val v H
  | none => none
 | .convert s d x => match opnd m x with
  | some a => (convA P s d a H).map fun r => .val r.1 r.2
  | none => none
 | .makeFunc fn first cap => match opnds m first.toList, opnds m cap.toList with
  | some a, some b => some (.val (.func fn a b) H)
  | _, _ => none
 | .makeSlice t l c => match opnd m l, opnd m c with
  | some a, some b => (makeSliceA P t a b H).map fun r => .val r.1 r.2
  | _, _ => none
 | .slice t x lo hi none => match opnd m x, optOpnd m lo, optOpnd m hi with
  | some a, some l, some h => (sliceOp P t a l h).map fun v => .val v H
  | _, _, _ => none
 | .slice t x lo hi (some mx) => match opnd m x, optOpnd m lo, optOpnd m hi, opnd m mx with
  | some a, some l, some h, some k => (sliceOp3 P t a l h (some k)).map fun v => .val v H
  | _, _, _, _ => none
 | .fieldAddr s x f => match opnd m x, fieldOf P s f with
  | some (.ptr t (some r)), some fd => match size? P fd.type with
   | some (_ + 1) => some (.val (.ptr t (some (r.to fd.offset))) H)
   | _ => none
  | some (.eptr t l e o), some fd => match size? P fd.type with
   | some (_ + 1) => some (.val (.eptr t l e (o + fd.offset)) H)
   | _ => none
  | _, _ => none
 | .field s x f => match opnd m x, fieldOf P s f with
  | some (.agg cs), some fd => (partA P fd.type cs fd.offset).map fun v => .val v H
  | _, _ => none
 | .indexAddr t x i => match opnd m x, opnd m i with
  | some a, some b => (indexAddrA P t a b).map fun v => .val v H
  | _, _ => none
 | .index t x i => match opnd m x, opnd m i with
  | some a, some b => (indexA P t a b).map fun v => .val v H
  | _, _ => none
 | .extract x i => match opnd m x with
  | some (.tup vs) => (vs[i]?).map fun v => .val v H
  | _ => none
 | .call c => callA P c m H
 | _ => none
def guardA (ops : Array Oper) (o : Oper) (m : Tm) : Option Bool :=
 match o.guard with
 | none => some true
 | some (j, want) => match ops[j]? with
  | some oj => match oj.dst with
   | some d => match m.get d with
    | some (.bool _ b) => some (b == want)
    | some (.tup []) => some false
    | _ => none
   | none => none
  | none => none
abbrev Caller := FuncId → List AV → Heap → Option (AV × Heap)
def stepA (P : Program) (cl : Caller) (ops : Array Oper) (o : Oper) (m : Tm) (H : Heap) : Option (Tm × Heap) :=
 match guardA ops o m with
 | none => none
 | some false => (m.dst o.dst (.tup [])).map fun m' => (m', H)
 | some true => match opA P o.op m H with
  | none => none
  | some (.val v H') => (m.dst o.dst v).map fun m' => (m', H')
  | some (.enter f args) => match cl f args H with
   | none => none
   | some (v, H') => (m.dst o.dst v).map fun m' => (m', H')
def coolD (dst : Option Nat) (d : Nat) (b : Bool) (m : Tm) : Tm := match dst with
 | none => { n := m.n, t := m.t.set d (.bool false b) }
 | some e => bif Nat.beq e d then m else { n := m.n, t := m.t.set d (.bool false b) }
def coolX (x : Operand) (b : Bool) (m : Tm) : Tm := match x with
 | .tmp d => coolD none d b m
 | _ => m
def coolGuard (ops : Array Oper) (o : Oper) (m m' : Tm) : Tm :=
 match o.guard with
 | none => m'
 | some (j, _) => match ops[j]? with
  | some oj => match oj.dst with
   | some d => match m.get d with
    | some (.bool _ b) => coolD o.dst d b m'
    | _ => m'
   | none => m'
  | none => m'
def coolPick (o : Oper) (m m' : Tm) : Tm :=
 match o.op with
 | .pick (.tmp c) _ _ => match m.get c with
  | some (.bool _ b) => coolD o.dst c b m'
  | _ => m'
 | _ => m'
def stepC (P : Program) (cl : Caller) (ops : Array Oper) (o : Oper) (m : Tm) (H : Heap) : Option (Tm × Heap) :=
 (stepA P cl ops o m H).map fun r => (coolPick o m (coolGuard ops o m r.1), r.2)
def opsA (P : Program) (cl : Caller) (ops : Array Oper) : List Oper → Tm → Heap → Option (Tm × Heap)
 | [], m, H => some (m, H)
 | o :: l, m, H => match stepC P cl ops o m H with
  | none => none
  | some (m', H') => opsA P cl ops l m' H'
mutual
def AV.beq : AV → AV → Bool
 | .bool t a, .bool t' b => t == t' && a == b
 | .int t k n, .int t' k' n' => t == t' && (decide (k = k') && decide (n = n'))
 | .str t a, .str t' b => t == t' && decide (a = b)
 | .ptr t a, .ptr t' b => t == t' && decide (a = b)
 | .slice t a n z, .slice t' b n' z' => t == t' && (decide (a = b) && decide (n = n') && decide (z = z'))
 | .map a, .map b => decide (a = b)
 | .func f a b, .func g c d => decide (f = g) && AV.beqL a c && AV.beqL b d
 | .nilFunc, .nilFunc => true
 | .nilIface, .nilIface => true
 | .agg a, .agg b => AV.beqL a b
 | .tup a, .tup b => AV.beqL a b
 | _, _ => false
def AV.beqL : List AV → List AV → Bool
 | [], [] => true
 | x :: xs, y :: ys => AV.beq x y && AV.beqL xs ys
 | _, _ => false
end
def ptrTo (P : Program) (t : TypeId) : Bool := match P.underlying t with
 | some (.pointer _) => true
 | some .unsafePointer => true
 | _ => false
def isEff (P : Program) : Op → Bool
 | .store .. | .alloc .. | .box .. | .buildSlice .. | .makeSlice .. => true
 | .convert _ d _ => kindOf P d == 3 || ptrTo P d
 | .binOp _ t x y _ => isTmp x && (isTmp y && Nat.beq (kindOf P t) 2)
 | .call c => match c.callee with
  | .builtin .len | .builtin .max | .builtin .min => false
  | _ => true
 | _ => false
def readOf (o : Op) (m : Tm) : Option Nat :=
 match o with
 | .load _ a => match opnd m a with
  | some (.ptr _ (some r)) => some r.g
  | _ => none
 | .convert _ _ x => match opnd m x with
  | some (.slice _ (some r) _ _) => some r.g
  | _ => none
 | _ => none
def bitsOk (ops : Array Oper) (b : Array Nat) : Bool :=
 (List.range ops.size).all fun j => Nat.blt (b.getD j 0) (2 ^ j) && (List.range j).all fun i => !(b.getD j 0).testBit i || match ops[j]? with
  | some o => o.after.any fun e => Region.binds .any e && Nat.blt e.on j && (e.on == i || (b.getD e.on 0).testBit i)
  | none => false
def backEdges (ops : Array Oper) : Bool :=
 (List.range ops.size).all fun j => match ops[j]? with
  | some o => o.after.all fun e => !Region.binds .any e || Nat.blt e.on j
  | none => true
def looseOk (P : Program) (ops : Array Oper) (b : Array Nat) : Bool :=
 (List.range ops.size).all fun j => (List.range j).all fun i => (b.getD j 0).testBit i || match ops[i]?, ops[j]? with
  | some x, some y => x.apart ops y && y.apart ops x && !(isEff P x.op && isEff P y.op)
  | _, _ => true
def drawOk (P : Program) (ops : Array Oper) (b : Array Nat) : Bool := backEdges ops && bitsOk ops b && looseOk P ops b
def traceA (P : Program) (cl : Caller) (ops : Array Oper) : List Oper → Tm → Heap → Option (Tm × Heap × List (Heap × Option Nat))
 | [], m, H => some (m, H, [])
 | o :: l, m, H => match stepA P cl ops o m H with
  | none => none
  | some (m', H') => match traceA P cl ops l m' H' with
   | none => none
   | some (m2, H2, tr) => some (m2, H2, (H, readOf o.op m) :: tr)
def readsP (P : Program) (ops : Array Oper) (b : Array Nat) (tr : List (Heap × Option Nat)) (Hl : Heap) : Prop :=
 ∀ (i j g : Nat) (x y : Oper) (Hi Hj : Heap), ops[i]? = some x → ops[j]? = some y → isEff P y.op = true → (b.getD j 0).testBit i = false → (b.getD i 0).testBit j = false →
  tr[i]? = some (Hi, some g) → (tr[j]?).map (·.1) = some Hj → Hj.get g = (match tr[j + 1]? with
   | some (Hk, _) => Hk.get g
   | none => Hl.get g)
open Classical in
noncomputable def drawA (P : Program) (cl : Caller) (ops : Array Oper) (m : Tm) (H : Heap) : Option (Tm × Heap) :=
 if drawOk P ops (Region.before ops) = true then
  match traceA P cl ops ops.toList m H with
  | none => none
  | some (m', H', tr) => if readsP P ops (Region.before ops) tr H' then some (m', H') else none
 else none
inductive Out where
 | norm
 | exit (id : Nat)
 | ret
 deriving DecidableEq
noncomputable def execA (P : Program) (cl : Caller) : Nat → Code → Tm → Heap → Option (Out × Tm × Heap)
 | 0, _, _, _ => none
 | n + 1, c, m, H => match c with
  | .skip => some (.norm, m, H)
  | .label _ => some (.norm, m, H)
  | .region _ ops draw => (if draw = true then drawA P cl ops m H else opsA P cl ops ops.toList m H).map fun r => (.norm, r.1, r.2)
  | .seq a b => match execA P cl n a m H with
   | some (.norm, m', H') => execA P cl n b m' H'
   | r => r
  | .cond x a b => match opnd m x with
   | some (.bool _ true) => execA P cl n a (coolX x true m) H
   | some (.bool _ false) => execA P cl n b (coolX x false m) H
   | _ => none
  | .block id b => match execA P cl n b m H with
   | some (.exit id', m', H') => if id' = id then some (.norm, m', H') else some (.exit id', m', H')
   | r => r
  | .loop b => match execA P cl n b m H with
   | some (.norm, m', H') => execA P cl n (.loop b) m' H'
   | r => r
  | .exit id => some (.exit id, m, H)
  | .ret => some (.ret, m, H)
  | _ => none
def argsT : Nat → List AV → Trie AV → Trie AV
 | _, [], t => t
 | i, v :: l, t => argsT (i + 1) l (t.set i v)
def startM (n : Nat) (args : List AV) : Tm := { n := n, t := argsT 0 args .leaf }
def resA (P : Program) (m : Tm) (H : Heap) : List ResultVar → Option (List AV)
 | [] => some []
 | .tmp t :: l => match m.get t, resA P m H l with
  | some v, some vs => some (v :: vs)
  | _, _ => none
 | .cell a t :: l => match m.get a with
  | some (.ptr _ (some r)) => match loadV P H t r, resA P m H l with
   | some v, some vs => some (v :: vs)
   | _, _ => none
  | _ => none
def pack : List AV → AV
 | [v] => v
 | l => .tup l
noncomputable def bodyA (P : Program) (cl : Caller) (n : Nat) (fn : Func) (c : Code) (args : List AV) (H : Heap) : Option (AV × Heap) :=
 if args.length ≤ fn.ntmps then
  match execA P cl n c (startM fn.ntmps args) H with
  | some (.norm, m, H') => (resA P m H' fn.results.toList).map fun l => (pack l, H')
  | some (.ret, m, H') => (resA P m H' fn.results.toList).map fun l => (pack l, H')
  | _ => none
 else none
end Go.Vx
end
section
set_option linter.unusedVariables false
set_option linter.unusedSimpArgs false
namespace Go.Vx
structure Base where
 blk : Nat
 off : Nat
 room : Nat
 nil : Bool := false
structure At where
 base : Nat → Option Base
 imm : Nat → Nat → Option Value
instance : CoeFun At (fun _ => Nat → Option Base) := ⟨At.base⟩
def SlAt (b : Base) (i n cap z : Nat) (a : Option Addr) : Prop :=
 (b.nil = true → n = 0 ∧ (b.room = 0 → cap = 0)) ∧ (b.nil = false → (0 < cap → a = some ⟨b.blk, b.off + i, none⟩) ∧ i + cap * z ≤ b.room)
mutual
inductive VRel (N : Nat) (β : At) : AV → Value → Prop
 | bool (t b : Bool) : VRel N β (.bool t b) (.bool b)
 | int (t : Bool) (k : IntKind) (n : Int) : VRel N β (.int t k n) (.int k n)
 | str (t : Bool) (s : List UInt8) (b : ByteArray) (h : b.data.toList = s) : VRel N β (.str t s) (.string b)
 | pnil (t : Bool) : VRel N β (.ptr t none) (.pointer none)
 | ptr (t : Bool) (r : Ref) (a : Addr) (hg : r.g < N) (h : ∀ b, β r.g = some b → b.nil = false ∧ a = ⟨b.blk, b.off + r.i, none⟩) : VRel N β (.ptr t (some r)) (.pointer (some a))
 | snil (t : Bool) (z : Nat) (a : Option Addr) (h : z = 0 → a = none) : VRel N β (.slice t none 0 z) (.slice a 0 0)
 | slice (t : Bool) (r : Ref) (n z cap : Nat) (a : Option Addr) (hg : r.g < N) (hn : n ≤ cap) (hs : a = none → cap = 0)
   (h : ∀ b, β r.g = some b → SlAt b r.i n cap z a) : VRel N β (.slice t (some r) n z) (.slice a n cap)
 | vec (t : Ty) (l : List t.den) (cap : Nat) (a : Option Addr) (b o : Nat) (cs : Nat → Value) (hn : l.length ≤ cap) (ha : (0 < l.length → a = some ⟨b, o, none⟩) ∧ (a = none → cap = 0))
   (h : ∀ k v, (encL t l)[k]? = some v → β.imm b (o + k) = some (cs k)) (h' : ∀ k v, (encL t l)[k]? = some v → VRel N β v (cs k)) : VRel N β (.vec t l) (.slice a l.length cap)
 | eptr (t : Ty) (l : List t.den) (e p : Nat) (b o : Nat) (cs : Nat → Value)
   (h : ∀ k v, (encL t l)[k]? = some v → β.imm b (o + k) = some (cs k)) (h' : ∀ k v, (encL t l)[k]? = some v → VRel N β v (cs k)) : VRel N β (.eptr t l e p) (.pointer (some ⟨b, o + (e * t.z + p), none⟩))
 | mnil : VRel N β (.map none) (.map none)
 | func (f : Fn) (xs ys : List AV) (cs ds : Array Value) (h : VsRel N β xs cs.toList) (h' : VsRel N β ys ds.toList) : VRel N β (.func f xs ys) (.func f cs ds)
 | nilFunc : VRel N β .nilFunc .nilFunc
 | nilIface : VRel N β .nilIface .nilIface
 | agg (xs : List AV) (cs : Array Value) (h : VsRel N β xs cs.toList) : VRel N β (.agg xs) (.agg cs)
 | tup (xs : List AV) (cs : Array Value) (h : VsRel N β xs cs.toList) : VRel N β (.tup xs) (.tuple cs)
inductive VsRel (N : Nat) (β : At) : List AV → List Value → Prop
 | nil : VsRel N β [] []
 | cons (x : AV) (c : Value) (xs : List AV) (cs : List Value) (h : VRel N β x c) (t : VsRel N β xs cs) : VsRel N β (x :: xs) (c :: cs)
end
def Keeps (N : Nat) (β β' : At) : Prop := (∀ g, g < N → β' g = β g ∨ β' g = none) ∧ ∀ b o c, β.imm b o = some c → β'.imm b o = some c
theorem Keeps.refl (N : Nat) (β : At) : Keeps N β β := ⟨fun _ _ => .inl rfl, fun _ _ _ h => h⟩
theorem Keeps.at {N : Nat} {β β' : At} (h : Keeps N β β') {g : Nat} (hg : g < N) {b : Base} (hb : β' g = some b) : β g = some b := by
 rcases h.1 g hg with e | e
 ·rw [← e]; exact hb
 ·rw [e] at hb; cases hb
mutual
theorem VRel.mono {N N' : Nat} {β β' : At} (hN : N ≤ N') (hk : Keeps N β β') : ∀ {v : AV} {c : Value}, VRel N β v c → VRel N' β' v c
 | _, _, .bool t b => .bool t b
 | _, _, .int t k n => .int t k n
 | _, _, .str t s b h => .str t s b h
 | _, _, .pnil t => .pnil t
 | _, _, .ptr t r a hg h => .ptr t r a (by omega) fun b hb => h b (hk.at hg hb)
 | _, _, .snil t z a h => .snil t z a h
 | _, _, .slice t r n z cap a hg hn hs h => .slice t r n z cap a (by omega) hn hs fun b hb => h b (hk.at hg hb)
 | _, _, .vec t l cap a b o cs hn ha h h' => .vec t l cap a b o cs hn ha (fun k v hv => hk.2 _ _ _ (h k v hv)) (fun k v hv => VRel.mono hN hk (h' k v hv))
 | _, _, .eptr t l e p b o cs h h' => .eptr t l e p b o cs (fun k v hv => hk.2 _ _ _ (h k v hv)) (fun k v hv => VRel.mono hN hk (h' k v hv))
 | _, _, .mnil => .mnil
 | _, _, .func f xs ys cs ds h h' => .func f xs ys cs ds (VsRel.mono hN hk h) (VsRel.mono hN hk h')
 | _, _, .nilFunc => .nilFunc
 | _, _, .nilIface => .nilIface
 | _, _, .agg xs cs h => .agg xs cs (VsRel.mono hN hk h)
 | _, _, .tup xs cs h => .tup xs cs (VsRel.mono hN hk h)
theorem VsRel.mono {N N' : Nat} {β β' : At} (hN : N ≤ N') (hk : Keeps N β β') : ∀ {v : List AV} {c : List Value}, VsRel N β v c → VsRel N' β' v c
 | _, _, .nil => .nil
 | _, _, .cons x c xs cs h t => .cons x c xs cs (VRel.mono hN hk h) (VsRel.mono hN hk t)
end
section lists
variable {N : Nat} {β : At}
theorem VsRel.length {xs : List AV} {cs : List Value} (h : VsRel N β xs cs) : xs.length = cs.length := by
 induction xs generalizing cs with
 | nil => cases h; rfl
 | cons x xs ih => cases h with | cons _ c _ cs h t => simp [ih t]
theorem VsRel.at {xs : List AV} {cs : List Value} (h : VsRel N β xs cs) (j : Nat) (v : AV) (hv : xs[j]? = some v) : ∃ c, cs[j]? = some c ∧ VRel N β v c := by
 induction xs generalizing cs j with
 | nil => simp at hv
 | cons x xs ih =>
  cases h with
  | cons _ c _ cs h t =>
   cases j with
   | zero => simp at hv; subst hv; exact ⟨c, by simp, h⟩
   | succ j => simp at hv; obtain ⟨d, hd, hr⟩ := ih t j hv; exact ⟨d, by simpa using hd, hr⟩
theorem VsRel.of_at {xs : List AV} {cs : List Value} (hl : xs.length = cs.length) (h : ∀ (j : Nat) (v : AV) (c : Value), xs[j]? = some v → cs[j]? = some c → VRel N β v c) : VsRel N β xs cs := by
 induction xs generalizing cs with
 | nil => cases cs with
  | nil => exact .nil
  | cons c cs => simp at hl
 | cons x xs ih => cases cs with
  | nil => simp at hl
  | cons c cs => exact .cons _ _ _ _ (h 0 x c (by simp) (by simp)) (ih (by simpa using hl) fun j v c hv hc => h (j + 1) v c (by simpa using hv) (by simpa using hc))
theorem VsRel.append {xs ys : List AV} {cs ds : List Value} (h : VsRel N β xs cs) (k : VsRel N β ys ds) : VsRel N β (xs ++ ys) (cs ++ ds) := by
 induction xs generalizing cs with
 | nil => cases h; exact k
 | cons x xs ih => cases h with | cons _ c _ cs h t => exact .cons _ _ _ _ h (ih t)
theorem VsRel.take {xs : List AV} {cs : List Value} (h : VsRel N β xs cs) (n : Nat) : VsRel N β (xs.take n) (cs.take n) := by
 induction n generalizing xs cs with
 | zero => simpa using .nil
 | succ n ih => cases h with
  | nil => simpa using .nil
  | cons _ c _ cs h t => simpa using .cons _ _ _ _ h (ih t)
theorem VsRel.drop {xs : List AV} {cs : List Value} (h : VsRel N β xs cs) (n : Nat) : VsRel N β (xs.drop n) (cs.drop n) := by
 induction n generalizing xs cs with
 | zero => simpa using h
 | succ n ih => cases h with
  | nil => simpa using .nil
  | cons _ c _ cs h t => simpa using ih t
theorem VsRel.one {v : AV} {c : Value} (h : VRel N β v c) : VsRel N β [v] [c] := .cons _ _ _ _ h .nil
theorem VRel.cells {v : AV} {c : Value} (h : VRel N β v c) : VsRel N β v.cells c.cells.toList := by
 cases h with
 | agg xs cs h => exact h
 | bool t b => exact .one (.bool t b)
 | int t k n => exact .one (.int t k n)
 | str t s b h => exact .one (.str t s b h)
 | pnil t => exact .one (.pnil t)
 | ptr t r a hg h => exact .one (.ptr t r a hg h)
 | snil t z a h => exact .one (.snil t z a h)
 | slice t r n z cap a hg hn hs h => exact .one (.slice t r n z cap a hg hn hs h)
 | vec t l cap a b o cs hn ha h h' => exact .one (.vec t l cap a b o cs hn ha h h')
 | eptr t l e p b o cs h h' => exact .one (.eptr t l e p b o cs h h')
 | mnil => exact .one .mnil
 | func f xs ys cs ds h h' => exact .one (.func f xs ys cs ds h h')
 | nilFunc => exact .one .nilFunc
 | nilIface => exact .one .nilIface
 | tup xs cs h => exact .one (.tup xs cs h)
end lists
theorem VRel.one {N : Nat} {β : At} {v : AV} {c : Value} (h : VRel N β v c) (hv : v.cell = true) : (∀ xs, c ≠ .agg xs) ∧ ∀ xs, c ≠ .tuple xs := by
 cases h <;> simp [AV.cell] at hv ⊢
def Free (w : World) (b : Base) : Prop :=
 (∃ C e fr, w.heap[b.blk]? = some (.cells C e fr) ∧ b.off + b.room ≤ C.size ∧ (fr.1 = fr.2 ∨ b.off + b.room ≤ fr.1)) ∧ ∀ j, j < b.room → w.frozen? ⟨b.blk, b.off + j, none⟩ = false
structure Lies (N : Nat) (β : At) (w : World) (cs : List AV) (ro : Bool) (b : Base) : Prop where
 cell : ∀ (j : Nat) (v : AV), cs[j]? = some v → ∃ c, w.cell? ⟨b.blk, b.off + j, none⟩ = some c ∧ VRel N β v c
 plain : ∀ (j : Nat) (v : AV), cs[j]? = some v → v.cell = true
 room : cs.length ≤ b.room
 nl : b.nil = true → cs = []
 nr : ro = false → b.nil = true → b.room = 0
 blk : b.nil = false → b.blk < w.heap.size
 free : ro = false → b.nil = false → Free w b
def Mut (β : At) (H : Heap) (k : Nat) : Prop := ∃ g b cs e, β g = some b ∧ H.row g = some (cs, e, false) ∧ b.nil = false ∧ b.blk = k
def globInts : List Nat := []
def GlobOk (imm : Nat → Nat → Option Value) : Prop := ∀ g, g ∈ globInts → ∃ n, imm g 0 = some (.int .i64 n)
theorem GlobOk.mono {i j : Nat → Nat → Option Value} (h : GlobOk i) (hk : ∀ b o c, i b o = some c → j b o = some c) : GlobOk j := fun g hg => by
 obtain ⟨n, hn⟩ := h g hg
 exact ⟨n, hk _ _ _ hn⟩
def globTabs : List (Nat × IntKind × List Int) := [(2, .u64, [1, 10, 100, 1000, 10000, 100000, 1000000, 10000000, 100000000, 1000000000, 10000000000, 100000000000, 1000000000000, 10000000000000, 100000000000000, 1000000000000000, 10000000000000000, 100000000000000000, 1000000000000000000, 10000000000000000000]), (0, .u8, [0, 0, 0, 0, 0, 0, 0, 0, 0, 1, 1, 1, 1, 1, 0, 0, 0, 0, 0, 0, 0, 0, 0, 0, 0, 0, 0, 0, 0, 0, 0, 0, 1, 0, 0, 0, 0, 0, 0, 0, 0, 0, 0, 0, 0, 0, 0, 0, 0, 0, 0, 0, 0, 0, 0, 0, 0, 0, 0, 0, 0, 0, 0, 0, 0, 0, 0, 0, 0, 0, 0, 0, 0, 0, 0, 0, 0, 0, 0, 0, 0, 0, 0, 0, 0, 0, 0, 0, 0, 0, 0, 0, 0, 0, 0, 0, 0, 0, 0, 0, 0, 0, 0, 0, 0, 0, 0, 0, 0, 0, 0, 0, 0, 0, 0, 0, 0, 0, 0, 0, 0, 0, 0, 0, 0, 0, 0, 0, 0, 0, 0, 0, 0, 0, 0, 0, 0, 0, 0, 0, 0, 0, 0, 0, 0, 0, 0, 0, 0, 0, 0, 0, 0, 0, 0, 0, 0, 0, 0, 0, 0, 0, 0, 0, 0, 0, 0, 0, 0, 0, 0, 0, 0, 0, 0, 0, 0, 0, 0, 0, 0, 0, 0, 0, 0, 0, 0, 0, 0, 0, 0, 0, 0, 0, 0, 0, 0, 0, 0, 0, 0, 0, 0, 0, 0, 0, 0, 0, 0, 0, 0, 0, 0, 0, 0, 0, 0, 0, 0, 0, 0, 0, 0, 0, 0, 0, 0, 0, 0, 0, 0, 0, 0, 0, 0, 0, 0, 0, 0, 0, 0, 0, 0, 0, 0, 0, 0, 0, 0, 0, 0, 0, 0, 0, 0, 0])]
def TabsOk (imm : Nat → Nat → Option Value) (w : World) : Prop := ∀ g k l, (g, k, l) ∈ globTabs → (∃ c, imm g 0 = some c) ∧ ∃ t m, w.heap[g]? = some (.cells (l.map fun z => Value.int k z).toArray t m)
theorem TabsOk.keep {i j : Nat → Nat → Option Value} {w w' : World} (h : TabsOk i w) (hi : ∀ b o c, i b o = some c → j b o = some c) (hb : ∀ g c, i g 0 = some c → w'.heap[g]? = w.heap[g]?) : TabsOk j w' := fun g k l hm => by
 obtain ⟨⟨c, hc⟩, t, m, hw⟩ := h g k l hm
 exact ⟨⟨c, hi _ _ _ hc⟩, t, m, (hb g c hc).trans hw⟩
def TypOk (w : World) (b : Base) (cs : List AV) (e : TypeId) : Prop := b.nil = false → ∃ C fr, w.heap[b.blk]? = some (.cells C (unT e) fr) ∧ (KT ≤ e → b.off = 0 ∧ C.size = cs.length)
theorem TypOk.same {w w' : World} {b : Base} {cs : List AV} {e : TypeId} (h : TypOk w b cs e) (he : b.nil = false → w'.heap[b.blk]? = w.heap[b.blk]?) : TypOk w' b cs e := fun hn => by
 rw [he hn]; exact h hn
theorem TypOk.len {w : World} {b : Base} {cs cs' : List AV} {e : TypeId} (h : TypOk w b cs e) (hl : cs'.length = cs.length) : TypOk w b cs' e := fun hn => by
 rw [hl]; exact h hn
theorem TypOk.low {w : World} {b b' : Base} {cs cs' : List AV} {e : TypeId} (h : TypOk w b cs e) (he : Nat.blt e KT = true) (hb : b'.nil = false → b.nil = false ∧ b'.blk = b.blk) : TypOk w b' cs' e := fun hn => by
 obtain ⟨h1, h2⟩ := hb hn
 obtain ⟨C, fr, hC, _⟩ := h h1
 exact ⟨C, fr, by rw [h2]; exact hC, fun hk => absurd hk (Nat.not_le.2 (show e < KT by simpa [Nat.blt_eq] using he))⟩
structure Rel (β : At) (H : Heap) (w : World) : Prop where
 lies : ∀ g b, β g = some b → ∃ cs e ro, H.row g = some (cs, e, ro) ∧ Lies H.n β w cs ro b
 tot : ∀ g cs e ro, H.row g = some (cs, e, ro) → ∃ b, β g = some b
 fresh : ∀ g o, H.get g = some o → g < H.n
 apart : ∀ g g' b b' cs e, g ≠ g' → β g = some b → β g' = some b' → H.row g = some (cs, e, false) → b.nil = false → b'.nil = false → b.blk ≠ b'.blk
 immw : ∀ b o c, β.imm b o = some c → w.cell? ⟨b, o, none⟩ = some c
 immm : ∀ b o c, β.imm b o = some c → ¬ Mut β H b
 glob : GlobOk β.imm
 tab : TabsOk β.imm w
 typ : ∀ g b cs e, β g = some b → H.row g = some (cs, e, false) → TypOk w b cs e
 fro : ∀ g t l e b, H.get g = some (.fro t l e) → β g = some b → b.nil = false → ∀ k v, (encL t l)[k]? = some v → ∃ c, β.imm b.blk (b.off + k) = some c ∧ VRel H.n β v c
structure Le (β : At) (H : Heap) (w : World) (β' : At) (H' : Heap) (w' : World) : Prop where
 os : w'.os = w.os
 tape : w'.tape = w.tape
 output : w'.output = w.output
 size : w.heap.size ≤ w'.heap.size
 n : H.n ≤ H'.n
 keeps : Keeps H.n β β'
 ro : ∀ g cs e, H.row g = some (cs, e, true) → (β' g = β g ∧ ∃ cs' e', H'.row g = some (cs', e', true)) ∨ (g < H'.n ∧ β' g = none)
 imm : ∀ b o c, β'.imm b o = some c → β.imm b o = some c ∨ Mut β H b ∨ w.heap.size ≤ b
 blocks : ∀ k, k < w.heap.size → ¬ Mut β H k → w'.heap[k]? = w.heap[k]?
 turn : ∀ k, Mut β' H' k → Mut β H k ∨ w.heap.size ≤ k
theorem Le.refl (β : At) (H : Heap) (w : World) : Le β H w β H w :=
 ⟨rfl, rfl, rfl, Nat.le_refl _, Nat.le_refl _, Keeps.refl _ _, fun _ _ _ h => .inl ⟨rfl, _, _, h⟩, fun _ _ _ h => .inl h, fun _ _ _ => rfl, fun _ h => .inl h⟩
theorem Keeps.trans {N N' : Nat} {β β1 β2 : At} (h : Keeps N β β1) (k : Keeps N' β1 β2) (hN : N ≤ N') : Keeps N β β2 := by
 refine ⟨fun g hg => ?_, fun b o c hc => k.2 b o c (h.2 b o c hc)⟩
 rcases k.1 g (by omega) with e | e
 ·rw [e]; exact h.1 g hg
 ·exact .inr e
theorem Le.trans {β β1 β2 : At} {H H1 H2 : Heap} {w w1 w2 : World} (h : Le β H w β1 H1 w1) (k : Le β1 H1 w1 β2 H2 w2) : Le β H w β2 H2 w2 where
 os := k.os.trans h.os
 tape := k.tape.trans h.tape
 output := k.output.trans h.output
 size := Nat.le_trans h.size k.size
 n := Nat.le_trans h.n k.n
 keeps := h.keeps.trans k.keeps h.n
 ro := fun g cs e hg => by
  rcases h.ro g cs e hg with ⟨e1, cs1, t1, h1⟩ | ⟨h1, h2⟩
  ·rcases k.ro g cs1 t1 h1 with ⟨e2, h2⟩ | h2
   ·exact .inl ⟨e2.trans e1, h2⟩
   ·exact .inr h2
  ·refine .inr ⟨Nat.lt_of_lt_of_le h1 k.n, ?_⟩
   rcases k.keeps.1 g h1 with h3 | h3
   ·rw [h3, h2]
   ·exact h3
 imm := fun b o c hc => by
  rcases k.imm b o c hc with e | e | e
  ·exact h.imm b o c e
  ·rcases h.turn b e with e | e
   ·exact .inr (.inl e)
   ·exact .inr (.inr e)
  ·have := h.size; exact .inr (.inr (by omega))
 blocks := fun b hb hm => by
  rw [k.blocks b (by have := h.size; omega) (fun hm1 => ?_), h.blocks b hb hm]
  rcases h.turn b hm1 with e | e
  ·exact hm e
  ·omega
 turn := fun b hb => by
  rcases k.turn b hb with e | e
  ·exact h.turn b e
  ·have := h.size; exact .inr (by omega)
theorem Free.of_same {w w' : World} {b : Base} (h : Free w b) (he : w'.heap[b.blk]? = w.heap[b.blk]?) : Free w' b := by
 obtain ⟨⟨C, e, fr, hC, hs⟩, hf⟩ := h
 exact ⟨⟨C, e, fr, he.trans hC, hs⟩, fun j hj => (World.frozen?_of_block (w := w) (a := ⟨b.blk, b.off + j, none⟩) he).trans (hf j hj)⟩
theorem Lies.later {N N' : Nat} {β β' : At} {w w' : World} {cs : List AV} {ro : Bool} {b : Base} (h : Lies N β w cs ro b) (hN : N ≤ N') (hk : Keeps N β β')
  (he : b.nil = false → w'.heap[b.blk]? = w.heap[b.blk]?) : Lies N' β' w' cs ro b where
 cell := fun j v hv => by
  obtain ⟨c, hc, hr⟩ := h.cell j v hv
  have hn : b.nil = false := by
   cases hb : b.nil with
   | false => rfl
   | true => rw [h.nl hb] at hv; simp at hv
  exact ⟨c, (World.cell?_of_block (w := w) (a := ⟨b.blk, b.off + j, none⟩) (he hn)).trans hc, hr.mono hN hk⟩
 plain := h.plain
 room := h.room
 nl := h.nl
 nr := h.nr
 blk := fun hn => by
  have h1 := h.blk hn
  have h2 : w.heap[b.blk]? = some w.heap[b.blk] := Array.getElem?_eq_getElem h1
  have he := he hn
  rw [h2] at he
  exact (Array.getElem?_eq_some_iff.1 he).1
 free := fun hr hn => (h.free hr hn).of_same (he hn)
theorem Rel.row_lt {β : At} {H : Heap} {w : World} (h : Rel β H w) {g : Nat} {x : List AV × TypeId × Bool} (hg : H.row g = some x) : g < H.n := by
 unfold Heap.row at hg
 cases ho : H.get g with
 | none => rw [ho] at hg; cases hg
 | some o => exact h.fresh g o ho
theorem Rel.drew {β : At} {H : Heap} {w : World} (h : Rel β H w) : Rel β H w.drew where
 lies := fun g b hb => by
  obtain ⟨cs, e, ro, h1, h2⟩ := h.lies g b hb
  exact ⟨cs, e, ro, h1, h2.later (Nat.le_refl _) (Keeps.refl _ _) fun _ => rfl⟩
 tot := h.tot
 fresh := h.fresh
 apart := h.apart
 immw := h.immw
 immm := h.immm
 glob := h.glob
 tab := h.tab
 typ := fun g b cs e hb hr => (h.typ g b cs e hb hr).same fun _ => rfl
 fro := h.fro
theorem Le.drew (β : At) (H : Heap) (w : World) : Le β H w β H w.drew :=
 ⟨rfl, rfl, rfl, Nat.le_refl _, Nat.le_refl _, Keeps.refl _ _, fun _ _ _ h => .inl ⟨rfl, _, _, h⟩, fun _ _ _ h => .inl h, fun _ _ _ => rfl, fun _ h => .inl h⟩
def put (β : At) (g : Nat) (x : Option Base) : At := { base := fun h => if h = g then x else β h, imm := β.imm }
theorem put_same (β : At) (g : Nat) (x : Option Base) : (put β g x).base g = x := by simp [put]
theorem put_ne (β : At) (g h : Nat) (x : Option Base) (hne : h ≠ g) : (put β g x).base h = β h := by simp [put, hne]
@[simp] theorem put_imm (β : At) (g : Nat) (x : Option Base) : (put β g x).imm = β.imm := rfl
theorem Keeps.kill (N : Nat) (β : At) (g : Nat) : Keeps N β (put β g none) := ⟨fun h _ => by
 by_cases e : h = g
 ·subst e; exact .inr (put_same ..)
 ·exact .inl (put_ne _ _ _ _ e), fun _ _ _ h => h⟩
theorem Keeps.new (N : Nat) (β : At) (x : Option Base) : Keeps N β (put β N x) := ⟨fun h hh => .inl (put_ne _ _ _ _ (by omega)), fun _ _ _ h => h⟩
theorem Rel.kill {β : At} {H : Heap} {w : World} (h : Rel β H w) {g : Nat} (hg : g < H.n) : Rel (put β g none) (H.set g .dead) w where
 lies := fun k b hb => by
  by_cases e : k = g
  ·subst e; rw [put_same] at hb; cases hb
  ·rw [put_ne _ _ _ _ e] at hb
   obtain ⟨cs, t, ro, h1, h2⟩ := h.lies k b hb
   exact ⟨cs, t, ro, by rw [Heap.row_set, if_neg e]; exact h1, h2.later (Nat.le_refl _) (Keeps.kill _ _ _) fun _ => rfl⟩
 tot := fun k cs t ro hk => by
  rw [Heap.row_set] at hk
  split at hk
  ·cases hk
  ·rename_i e
   obtain ⟨b, hb⟩ := h.tot k cs t ro hk
   exact ⟨b, by rw [put_ne _ _ _ _ e]; exact hb⟩
 fresh := fun k o hk => by
  rw [Heap.get_set] at hk
  split at hk
  ·rename_i e; subst e; exact hg
  ·exact h.fresh k o hk
 apart := fun k k' b b' cs t hne hb hb' hk => by
  rw [Heap.row_set] at hk
  split at hk
  ·cases hk
  ·rename_i e
   rw [put_ne _ _ _ _ e] at hb
   by_cases e' : k' = g
   ·subst e'; rw [put_same] at hb'; cases hb'
   ·rw [put_ne _ _ _ _ e'] at hb'
    exact h.apart k k' b b' cs t hne hb hb' hk
 glob := h.glob
 tab := h.tab
 typ := fun k b cs t hb hk => by
  rw [Heap.row_set] at hk
  split at hk
  ·cases hk
  ·rename_i e
   rw [put_ne _ _ _ _ e] at hb
   exact h.typ k b cs t hb hk
 fro := fun k t l e b hk hb hn i v hv => by
  rw [Heap.get_set] at hk
  split at hk
  ·cases hk
  ·rename_i e'
   rw [put_ne _ _ _ _ e'] at hb
   obtain ⟨c, hc, hr⟩ := h.fro k t l e b hk hb hn i v hv
   exact ⟨c, hc, hr.mono (Nat.le_refl _) (Keeps.kill _ _ _)⟩
 immw := h.immw
 immm := fun b o c hc ⟨k, b1, cs, e, h1, h2, h3, h4⟩ => by
  rw [Heap.row_set] at h2
  split at h2
  ·cases h2
  ·rename_i e'
   rw [put_ne _ _ _ _ e'] at h1
   exact h.immm b o c hc ⟨k, b1, cs, e, h1, h2, h3, h4⟩
theorem Rel.push {β : At} {H : Heap} {w w' : World} (h : Rel β H w) (b : Base) {cs : List AV} {e : TypeId} {o : AObj} (ho : o.row = some (cs, e, false))
  (hfree : ∀ g b', β g = some b' → b'.nil = false → b'.blk ≠ b.blk) (him : ∀ o c, β.imm b.blk o ≠ some c) (hsame : ∀ k, k < w.heap.size → k ≠ b.blk → w'.heap[k]? = w.heap[k]?)
  (hl : Lies (H.n + 1) (put β H.n (some b)) w' cs false b) (ht : TypOk w' b cs e) : Rel (put β H.n (some b)) (H.push o) w' where
 lies := fun g b' hb => by
  by_cases e' : g = H.n
  ·subst e'
   rw [put_same] at hb
   cases hb
   exact ⟨cs, e, false, by rw [Heap.row_push, if_pos rfl]; exact ho, hl⟩
  ·rw [put_ne _ _ _ _ e'] at hb
   obtain ⟨cs', t, ro, h1, h2⟩ := h.lies g b' hb
   exact ⟨cs', t, ro, by rw [Heap.row_push, if_neg e']; exact h1, h2.later (by simp) (Keeps.new _ _ _) fun hn => hsame _ (h2.blk hn) (hfree g b' hb hn)⟩
 tot := fun k cs' t ro hk => by
  rw [Heap.row_push] at hk
  split at hk
  ·rename_i e'; subst e'; exact ⟨b, put_same ..⟩
  ·rename_i e'
   obtain ⟨b', hb'⟩ := h.tot k cs' t ro hk
   exact ⟨b', by rw [put_ne _ _ _ _ e']; exact hb'⟩
 fresh := fun k o hk => by
  rw [Heap.get_push] at hk
  split at hk
  ·rename_i e'; subst e'; simp
  ·have := h.fresh k o hk; simp; omega
 apart := fun k k' b1 b2 cs' t hne hb hb' hk hn hn' => by
  by_cases e1 : k = H.n
  ·subst e1
   rw [put_same] at hb
   cases hb
   rw [put_ne _ _ _ _ (Ne.symm hne)] at hb'
   exact (hfree k' b2 hb' hn').symm
  ·rw [put_ne _ _ _ _ e1] at hb
   by_cases e2 : k' = H.n
   ·subst e2
    rw [put_same] at hb'
    cases hb'
    exact hfree k b1 hb hn
   ·rw [put_ne _ _ _ _ e2] at hb'
    rw [Heap.row_push, if_neg e1] at hk
    exact h.apart k k' b1 b2 cs' t hne hb hb' hk hn hn'
 glob := h.glob
 tab := h.tab.keep (fun _ _ _ h => h) fun g1 c hc => by
  have h1 := h.immw g1 0 c hc
  have hlt : g1 < w.heap.size := by
   unfold World.cell? at h1
   cases hb : w.heap[g1]? with
   | none => rw [hb] at h1; cases h1
   | some x => exact (Array.getElem?_eq_some_iff.1 hb).1
  exact hsame g1 hlt (fun x => him 0 c (x ▸ hc))
 typ := fun k b1 cs' t hb hk => by
  rw [Heap.row_push] at hk
  by_cases e1 : k = H.n
  ·subst e1
   rw [put_same] at hb
   cases hb
   rw [if_pos rfl, ho] at hk
   cases hk
   exact ht
  ·rw [put_ne _ _ _ _ e1] at hb
   rw [if_neg e1] at hk
   refine (h.typ k b1 cs' t hb hk).same fun hn => hsame _ ?_ (hfree k b1 hb hn)
   obtain ⟨_, _, _, _, hl⟩ := h.lies k b1 hb
   exact hl.blk hn
 fro := fun k t l e b1 hk hb hn i v hv => by
  rw [Heap.get_push] at hk
  split at hk
  ·cases hk
   simp [AObj.row] at ho
  ·rename_i e'
   rw [put_ne _ _ _ _ e'] at hb
   obtain ⟨c, hc, hr⟩ := h.fro k t l e b1 hk hb hn i v hv
   exact ⟨c, hc, hr.mono (by simp) (Keeps.new _ _ _)⟩
 immw := fun b1 o1 c1 hc => by
  have h1 := h.immw b1 o1 c1 hc
  have hlt : b1 < w.heap.size := by
   unfold World.cell? at h1
   cases hb : w.heap[b1]? with
   | none => rw [hb] at h1; cases h1
   | some x => exact (Array.getElem?_eq_some_iff.1 hb).1
  exact (World.cell?_of_block (w := w) (a := ⟨b1, o1, none⟩) (hsame b1 hlt (fun x => him o1 c1 (x ▸ hc)))).trans h1
 immm := fun b1 o1 c1 hc ⟨k, b2, cs2, e2, h1, h2, h3, h4⟩ => by
  by_cases e' : k = H.n
  ·subst e'
   rw [put_same] at h1
   cases h1
   exact him o1 c1 (h4 ▸ hc)
  ·rw [put_ne _ _ _ _ e'] at h1
   rw [Heap.row_push, if_neg e'] at h2
   exact h.immm b1 o1 c1 hc ⟨k, b2, cs2, e2, h1, h2, h3, h4⟩
theorem Rel.blk_lt {β : At} {H : Heap} {w : World} (h : Rel β H w) {g : Nat} {b : Base} (hb : β g = some b) (hn : b.nil = false) : b.blk < w.heap.size := by
 obtain ⟨_, _, _, _, hl⟩ := h.lies g b hb
 exact hl.blk hn
theorem Rel.imm_lt {β : At} {H : Heap} {w : World} (h : Rel β H w) {b o : Nat} {c : Value} (hc : β.imm b o = some c) : b < w.heap.size := by
 have h1 := h.immw b o c hc
 unfold World.cell? at h1
 cases hb : w.heap[b]? with
 | none => rw [hb] at h1; cases h1
 | some x => exact (Array.getElem?_eq_some_iff.1 hb).1
theorem Le.alloc {β : At} {H : Heap} {w w' : World} (h : Rel β H w) (hos : w'.os = w.os) (htape : w'.tape = w.tape) (hout : w'.output = w.output) (hsize : w.heap.size ≤ w'.heap.size)
  (hsame : ∀ k, k < w.heap.size → w'.heap[k]? = w.heap[k]?) (b : Base) (hb : w.heap.size ≤ b.blk) (o : AObj) :
  Le β H w (put β H.n (some b)) (H.push o) w' where
 os := hos
 tape := htape
 output := hout
 size := hsize
 n := by simp
 keeps := Keeps.new _ _ _
 ro := fun g cs' t hg => by
  have hlt := h.row_lt hg
  exact .inl ⟨put_ne _ _ _ _ (by omega), cs', t, by rw [Heap.row_push, if_neg (by omega)]; exact hg⟩
 imm := fun _ _ _ h => .inl h
 blocks := fun k hk _ => hsame k hk
 turn := fun k hk => by
  obtain ⟨g, b', cs', t, hb', hg, hn, rfl⟩ := hk
  by_cases e' : g = H.n
  ·subst e'
   rw [put_same] at hb'
   cases hb'
   exact .inr hb
  ·rw [put_ne _ _ _ _ e'] at hb'
   rw [Heap.row_push, if_neg e'] at hg
   exact .inl ⟨g, b', cs', t, hb', hg, hn, rfl⟩
theorem Rel.write {β : At} {H : Heap} {w w' : World} (h : Rel β H w) {g : Nat} {b : Base} {cs cs' : List AV} {e : TypeId} (hb : β g = some b) (hg : H.row g = some (cs, e, false)) (hbn : b.nil = false)
  (hsame : ∀ k, k ≠ b.blk → w'.heap[k]? = w.heap[k]?) {o : AObj} {e' : TypeId} (ho : o.row = some (cs', e', false)) (hl : Lies H.n β w' cs' false b) (ht : TypOk w' b cs' e') : Rel β (H.set g o) w' where
 lies := fun k b' hb' => by
  by_cases e' : k = g
  ·subst e'
   rw [hb] at hb'
   cases hb'
   exact ⟨cs', e', false, by rw [Heap.row_set, if_pos rfl]; exact ho, hl⟩
  ·obtain ⟨cs1, t, ro, h1, h2⟩ := h.lies k b' hb'
   exact ⟨cs1, t, ro, by rw [Heap.row_set, if_neg e']; exact h1, h2.later (Nat.le_refl _) (Keeps.refl _ _) fun hn => hsame _ (fun x => h.apart g k b b' cs e (Ne.symm e') hb hb' hg hbn hn x.symm)⟩
 tot := fun k cs1 t ro hk => by
  rw [Heap.row_set] at hk
  split at hk
  ·rename_i e'; subst e'; exact ⟨b, hb⟩
  ·exact h.tot k cs1 t ro hk
 fresh := fun k o hk => by
  rw [Heap.get_set] at hk
  split at hk
  ·rename_i e'; subst e'; exact h.row_lt hg
  ·exact h.fresh k o hk
 apart := fun k k' b1 b2 cs1 t hne hb1 hb2 hk => by
  rw [Heap.row_set] at hk
  split at hk
  ·rename_i e'
   subst e'
   exact h.apart k k' b1 b2 cs e hne hb1 hb2 hg
  ·exact h.apart k k' b1 b2 cs1 t hne hb1 hb2 hk
 glob := h.glob
 tab := h.tab.keep (fun _ _ _ h => h) fun g1 c hc => hsame g1 (fun x => h.immm g1 0 c hc ⟨g, b, cs, e, hb, hg, hbn, x.symm⟩)
 typ := fun k b1 cs1 t hb1 hk => by
  rw [Heap.row_set] at hk
  split at hk
  ·rename_i e1
   subst e1
   rw [hb] at hb1
   cases hb1
   rw [ho] at hk
   cases hk
   exact ht
  ·rename_i e1
   exact (h.typ k b1 cs1 t hb1 hk).same fun hn => hsame _ (fun x => h.apart g k b b1 cs e (Ne.symm e1) hb hb1 hg hbn hn x.symm)
 fro := fun k t l e1 b1 hk hb1 hn i v hv => by
  rw [Heap.get_set] at hk
  split at hk
  ·cases hk
   simp [AObj.row] at ho
  ·exact h.fro k t l e1 b1 hk hb1 hn i v hv
 immw := fun b1 o1 c1 hc => by
  have hm := h.immm b1 o1 c1 hc
  exact (World.cell?_of_block (w := w) (a := ⟨b1, o1, none⟩) (hsame b1 (fun x => hm ⟨g, b, cs, e, hb, hg, hbn, x.symm⟩))).trans (h.immw b1 o1 c1 hc)
 immm := fun b1 o1 c1 hc ⟨k, b2, cs2, e2, h1, h2, h3, h4⟩ => by
  rw [Heap.row_set] at h2
  split at h2
  ·rename_i e'
   subst e'
   exact h.immm b1 o1 c1 hc ⟨k, b2, cs, e, h1, hg, h3, h4⟩
  ·exact h.immm b1 o1 c1 hc ⟨k, b2, cs2, e2, h1, h2, h3, h4⟩
theorem Le.write {β : At} {H : Heap} {w w' : World} {g : Nat} {b : Base} {cs : List AV} {e : TypeId} (o : AObj) (hb : β g = some b) (hg : H.row g = some (cs, e, false)) (hbn : b.nil = false)
  (hos : w'.os = w.os) (htape : w'.tape = w.tape) (hout : w'.output = w.output) (hsize : w'.heap.size = w.heap.size) (hsame : ∀ k, k ≠ b.blk → w'.heap[k]? = w.heap[k]?) :
  Le β H w β (H.set g o) w' where
 os := hos
 tape := htape
 output := hout
 size := by omega
 n := by simp
 keeps := Keeps.refl _ _
 ro := fun k cs1 t hk => by
  refine .inl ⟨rfl, cs1, t, ?_⟩
  rw [Heap.row_set]
  split
  ·rename_i e'; subst e'; rw [hg] at hk; cases hk
  ·exact hk
 imm := fun _ _ _ h => .inl h
 blocks := fun k hk hm => hsame k (fun x => hm ⟨g, b, cs, e, hb, hg, hbn, x.symm⟩)
 turn := fun k hk => by
  obtain ⟨g1, b1, cs1, t, h1, h2, h3, h4⟩ := hk
  rw [Heap.row_set] at h2
  split at h2
  ·rename_i e'; subst e'; exact .inl ⟨g1, b1, cs, e, h1, hg, h3, h4⟩
  ·exact .inl ⟨g1, b1, cs1, t, h1, h2, h3, h4⟩
theorem Le.take {β : At} {H : Heap} {w w' : World} (h : Rel β H w) {g : Nat} {b b' : Base} {cs : List AV} {e : TypeId} (o : AObj) (hb : β g = some b) (hg : H.row g = some (cs, e, false)) (hbb : (b.nil = false ∧ b'.blk = b.blk) ∨ w.heap.size ≤ b'.blk)
  (hos : w'.os = w.os) (htape : w'.tape = w.tape) (hout : w'.output = w.output) (hsize : w.heap.size ≤ w'.heap.size) (hsame : ∀ k, k < w.heap.size → (b.nil = false → k ≠ b.blk) → w'.heap[k]? = w.heap[k]?) :
  Le β H w (put (put β g none) H.n (some b')) ((H.set g .dead).push o) w' where
 os := hos
 tape := htape
 output := hout
 size := hsize
 n := by simp
 keeps := (Keeps.kill _ _ _).trans (Keeps.new _ _ _) (Nat.le_refl _)
 ro := fun k cs1 t hk => by
  have hlt := h.row_lt hk
  have hne : k ≠ g := by rintro rfl; rw [hg] at hk; cases hk
  exact .inl ⟨by rw [put_ne _ _ _ _ (by omega), put_ne _ _ _ _ hne], cs1, t, by rw [Heap.row_push, if_neg (by simp; omega), Heap.row_set, if_neg hne]; exact hk⟩
 imm := fun _ _ _ h => .inl h
 blocks := fun k hk hm => hsame k hk (fun hn x => hm ⟨g, b, cs, e, hb, hg, hn, x.symm⟩)
 turn := fun k hk => by
  obtain ⟨g1, b1, cs1, t, h1, h2, h3, h4⟩ := hk
  by_cases e1 : g1 = H.n
  ·subst e1
   rw [put_same] at h1
   cases h1
   subst h4
   rcases hbb with ⟨hn, x⟩ | x
   ·exact .inl ⟨g, b, cs, e, hb, hg, hn, x.symm⟩
   ·exact .inr x
  ·rw [put_ne _ _ _ _ e1] at h1
   rw [Heap.row_push, if_neg (by simpa using e1), Heap.row_set] at h2
   split at h2
   ·cases h2
   ·rename_i e2
    rw [put_ne _ _ _ _ e2] at h1
    exact .inl ⟨g1, b1, cs1, t, h1, h2, h3, h4⟩
def TRel (N : Nat) (β : At) (m : Tm) (tmps : Array Value) : Prop := tmps.size = m.n ∧ ∀ i v, m.get i = some v → ∃ c, tmps[i]? = some c ∧ VRel N β v c
theorem TRel.mono {N N' : Nat} {β β' : At} {m : Tm} {tmps : Array Value} (h : TRel N β m tmps) (hN : N ≤ N') (hk : Keeps N β β') : TRel N' β' m tmps :=
 ⟨h.1, fun i v hv => by
  obtain ⟨c, hc, hr⟩ := h.2 i v hv
  exact ⟨c, hc, hr.mono hN hk⟩⟩
theorem TRel.put {N : Nat} {β : At} {m m' : Tm} {tmps : Array Value} (h : TRel N β m tmps) {i : Nat} {v : AV} {c : Value} (hv : VRel N β v c) (hm : m.put i v = some m') : TRel N β m' (tmps.setIfInBounds i c) := by
 unfold Tm.put at hm
 cases hb : Nat.blt i m.n with
 | false => rw [hb] at hm; cases hm
 | true =>
  rw [hb] at hm
  simp only [cond_true, Option.some.injEq] at hm
  subst hm
  have hlt : i < m.n := by simpa [Nat.blt_eq] using hb
  refine ⟨by simpa using h.1, fun j u hu => ?_⟩
  simp only [Tm.get, Trie.get_set] at hu
  by_cases e : j = i
  ·subst e
   rw [if_pos rfl] at hu
   cases hu
   exact ⟨c, by rw [Array.getElem?_setIfInBounds, if_pos rfl, if_pos (by rw [h.1]; exact hlt)], hv⟩
  ·rw [if_neg e] at hu
   obtain ⟨d, hd, hr⟩ := h.2 j u hu
   exact ⟨d, by rw [Array.getElem?_setIfInBounds, if_neg (fun x => e x.symm)]; exact hd, hr⟩
theorem TRel.dst {N : Nat} {β : At} {m m' : Tm} {a : Act} (h : TRel N β m a.tmps) {d : Option Nat} {v : AV} {c : Value} (hv : VRel N β v c) (hm : m.dst d v = some m') : TRel N β m' (a.put d c).tmps := by
 cases d with
 | none => simp only [Tm.dst, Option.some.injEq] at hm; subst hm; exact h
 | some i => exact TRel.put h hv hm
end Go.Vx
end
section
set_option linter.unusedVariables false
set_option linter.unusedSimpArgs false
namespace Go.Vx
section consts
variable {N : Nat} {β : At}
theorem ofCell_sound {c : Value} {v : AV} (h : ofCell c = some v) : VRel N β v c := by
 cases c <;> simp only [ofCell] at h <;> try (first | cases h; done)
 case bool b => cases h; exact .bool _ b
 case int k n => cases h; exact .int _ k n
 case string s => cases h; exact .str _ _ _ rfl
 case pointer a => cases a <;> simp only [ofCell] at h <;> cases h; exact .pnil _
 case slice a n c =>
  split at h
  all_goals first | (cases h; done) | skip
  all_goals simp_all
  all_goals subst h
  all_goals exact .snil _ 0 none fun _ => rfl
 case map r => cases r <;> simp only [ofCell] at h <;> cases h; exact .mnil
 case nilFunc => cases h; exact .nilFunc
 case nilIface => cases h; exact .nilIface
theorem ofCells_sound : ∀ {cs : List Value} {vs : List AV}, ofCells cs = some vs → VsRel N β vs cs
 | [], vs, h => by simp only [ofCells] at h; cases h; exact .nil
 | c :: cs, vs, h => by
  simp only [ofCells] at h
  split at h
  ·rename_i a as h1 h2
   cases h
   exact .cons _ _ _ _ (ofCell_sound h1) (ofCells_sound h2)
  ·cases h
theorem ofConst_sound {c : Value} {v : AV} (h : ofConst c = some v) : VRel N β v c := by
 unfold ofConst at h
 split at h
 ·rename_i cs
  cases hc : ofCells cs.toList with
  | none => rw [hc] at h; cases h
  | some vs => rw [hc] at h; cases h; exact .agg _ _ (ofCells_sound hc)
 ·rename_i vs
  split at h
  ·rename_i h0
   cases h
   have : vs = #[] := Array.eq_empty_of_size_eq_zero h0
   subst this
   exact .tup _ _ .nil
  ·cases h
 ·exact ofCell_sound h
end consts
theorem opnd_sound {N : Nat} {β : At} {m : Tm} {a : Act} (hT : TRel N β m a.tmps) {x : Operand} {v : AV} (h : opnd m x = some v) : VRel N β v (a.eval x) := by
 cases x with
 | tmp t =>
  obtain ⟨c, hc, hr⟩ := hT.2 t v h
  simpa [Act.eval, Array.getD_eq_getD_getElem?, hc] using hr
 | const c => exact ofConst_sound h
 | global g => cases h
 | func f => simp only [opnd, Option.some.injEq] at h; subst h; exact .func _ _ _ _ _ .nil .nil
theorem opnds_sound {N : Nat} {β : At} {m : Tm} {a : Act} (hT : TRel N β m a.tmps) : ∀ {l : List Operand} {vs : List AV}, opnds m l = some vs → VsRel N β vs (l.map a.eval)
 | [], vs, h => by simp only [opnds] at h; cases h; exact .nil
 | x :: l, vs, h => by
  simp only [opnds] at h
  split at h
  ·rename_i b bs h1 h2
   cases h
   exact .cons _ _ _ _ (opnd_sound hT h1) (opnds_sound hT h2)
  ·cases h
def Fits (P : Program) (o : Oper) (a : Act) (β : At) (H : Heap) (w : World) (v : AV) (H' : Heap) : Prop :=
 ∃ β' w', Rel β' H' w' ∧ Le β H w β' H' w' ∧ ((∃ c, (execOp a.eval o).run P w = .ok (.value c) w' ∧ VRel H'.n β' v c) ∨ ((execOp a.eval o).run P w = .ok .skip w' ∧ v = .tup []))
section pure_
variable {P : Program} {o : Oper} {a : Act} {β : At} {H : Heap} {w : World} {m : Tm}
theorem Fits.same (hR : Rel β H w) {v : AV} {c : Value} (h : (execOp a.eval o).run P w = .ok (.value c) w) (hv : VRel H.n β v c) : Fits P o a β H w v H :=
 ⟨β, w, hR, Le.refl _ _ _, .inl ⟨c, h, hv⟩⟩
theorem fits_move (hR : Rel β H w) (hT : TRel H.n β m a.tmps) {x : Operand} {v : AV} (ho : o.op = .move x ∨ o.op = .assign x) (h : opnd m x = some v) : Fits P o a β H w v H := by
 refine Fits.same hR (c := a.eval x) ?_ (opnd_sound hT h)
 rcases ho with ho | ho <;> simp [execOp, ho, Sem.run]
theorem fits_pick (hR : Rel β H w) (hT : TRel H.n β m a.tmps) {c x y : Operand} {t b : Bool} {v : AV} (ho : o.op = .pick c x y) (hc : opnd m c = some (.bool t b)) (h : opnd m (if b then x else y) = some v) : Fits P o a β H w v H := by
 have hb := opnd_sound hT hc
 cases hb' : a.eval c <;> rw [hb'] at hb <;> cases hb
 refine Fits.same hR (c := a.eval (if b then x else y)) ?_ (opnd_sound hT h)
 cases b <;> simp [execOp, ho, hb', asBool, Sem.run]
def conc : AV → Value
 | .int _ k n => .int k n
 | .bool _ b => .bool b
 | _ => undef
theorem arith_sound {u : Bool} {op : BinOp} {k : IntKind} {x y : Int} {v : AV} (hs : op ≠ .shl) (hs' : op ≠ .shr) (h : arith u op k x y = some v) (t : TypeId) : (∀ w, (binOp op t (.int k x) (.int k y)).run P w = .ok (conc v) w) ∧ ∀ N β, VRel N β v (conc v) := by
 cases op <;> simp only [arith] at h <;> try (first | cases h; done)
 case quo =>
  split at h
  ·cases h
  ·rename_i hy; cases h; exact ⟨fun w => by simp [binOp, Op.intDiv, hy, Sem.run, conc], fun N β => .int _ _ _⟩
 case rem =>
  split at h
  ·cases h
  ·rename_i hy; cases h; exact ⟨fun w => by simp [binOp, Op.intDiv, hy, Sem.run, conc], fun N β => .int _ _ _⟩
 all_goals first
  | (cases h; exact ⟨fun w => by simp only [binOp, ne_eq, not_true, if_false]; rfl, fun N β => by first | exact .int _ _ _ | exact .bool _ _⟩)
theorem shift_sound {u : Bool} {op : BinOp} {k k' : IntKind} {x y : Int} {v : AV} (h : shiftA u op k x y = some v) (t : TypeId) : (∀ w, (binOp op t (.int k x) (.int k' y)).run P w = .ok (conc v) w) ∧ ∀ N β, VRel N β v (conc v) := by
 unfold shiftA at h
 split at h
 ·cases h
 ·rename_i hy
  cases op <;> simp only at h <;> try (first | cases h; done)
  all_goals (cases h; exact ⟨fun w => by simp only [binOp, Op.shift, if_neg hy]; rfl, fun N β => .int _ _ _⟩)
theorem str_of {N : Nat} {β : At} {t : Bool} {s : List UInt8} {c : Value} (h : VRel N β (.str t s) c) : ∃ b : ByteArray, c = .string b ∧ b.data.toList = s := by
 cases h with
 | str _ _ b h => exact ⟨b, rfl, h⟩
theorem int_of {N : Nat} {β : At} {t : Bool} {k : IntKind} {n : Int} {c : Value} (h : VRel N β (.int t k n) c) : c = .int k n := by cases h; rfl
theorem bool_of {N : Nat} {β : At} {t b : Bool} {c : Value} (h : VRel N β (.bool t b) c) : c = .bool b := by cases h; rfl
theorem strA_sound {u : Bool} {op : BinOp} {s t : List UInt8} {x y : ByteArray} {v : AV} (hx : x.data.toList = s) (hy : y.data.toList = t) (h : strA u op s t = some v) (T : TypeId) :
  ∃ c, (∀ w, (binOp op T (.string x) (.string y)).run P w = .ok c w) ∧ ∀ N β, VRel N β v c := by
 have ex : x.toList = s := by rw [Lib.toList_data, hx]
 have ey : y.toList = t := by rw [Lib.toList_data, hy]
 have sx : x.size = s.length := by rw [← hx, Lib.size_eq]
 have sy : y.size = t.length := by rw [← hy, Lib.size_eq]
 cases op <;> simp only [strA] at h <;> try (first | cases h; done)
 case add =>
  split at h
  ·rename_i hle
   cases h
   refine ⟨.string (x ++ y), fun w => ?_, fun N β => .str _ _ _ (by rw [ByteArray.data_append, Array.toList_append, hx, hy])⟩
   simp only [binOp, Op.stringOp]
   rw [if_neg (by rw [sx, sy]; simp only [IntKind.max, IntKind.signed, IntKind.bits, if_true] at *; omega)]
   rfl
  ·cases h
 all_goals
  cases h
  refine ⟨_, fun w => ?_, fun N β => .bool _ _⟩
  simp only [binOp, Op.stringOp, ex, ey]
  rfl
theorem under_of_kind {t : TypeId} : (kindOf P t = 1 → P.underlying t = some .bool) ∧ (kindOf P t = 2 → ∃ e, P.underlying t = some (.pointer e)) ∧ (kindOf P t = 3 → ∃ e, P.underlying t = some (.slice e)) ∧
  (kindOf P t = 4 → ∃ k e, P.underlying t = some (.map k e)) ∧ (kindOf P t = 5 → ∃ x y z, P.underlying t = some (.func x y z)) ∧ (kindOf P t = 6 → ∃ k, P.underlying t = some (.int k)) ∧ (kindOf P t = 7 → P.underlying t = some .string) := by
 unfold kindOf
 refine ⟨?_, ?_, ?_, ?_, ?_, ?_, ?_⟩ <;> intro h <;> split at h <;> first | (cases h; done) | (first | assumption | exact ⟨_, by assumption⟩ | exact ⟨_, _, by assumption⟩ | exact ⟨_, _, _, by assumption⟩)
theorem isAgg_false {t : TypeId} (h : kindOf P t = 1 ∨ kindOf P t = 6 ∨ kindOf P t = 7) (w : World) : (isAgg t).run P w = .ok false w := by
 obtain ⟨h1, _, _, _, _, h6, h7⟩ := under_of_kind (P := P) (t := t)
 rcases h with h | h | h
 ·simp [isAgg, run_underlying (h1 h)]
 ·obtain ⟨k, hk⟩ := h6 h; simp [isAgg, run_underlying hk]
 ·simp [isAgg, run_underlying (h7 h)]
theorem part_plain {t : TypeId} (h : kindOf P t = 1 ∨ kindOf P t = 6 ∨ kindOf P t = 7) (cs : Array Value) (off : Nat) (c : Value) (hc : cs[off]? = some c) (w : World) : (part t cs off).run P w = .ok c w := by
 simp [part, isAgg_false h w, hc]
theorem fieldEq_sound {N : Nat} {β : At} {x y : AV} {a b : Value} (hx : VRel N β x a) (hy : VRel N β y b) {u r : Bool} {t : TypeId} (h : fieldEq P t x y = some (u, r)) (d : Nat) (w : World) :
  (Op.equalIn (d + 1) t a b).run P w = .ok r w ∧ (kindOf P t = 1 ∨ kindOf P t = 6 ∨ kindOf P t = 7) := by
 obtain ⟨h1, _, _, _, _, h6, h7⟩ := under_of_kind (P := P) (t := t)
 unfold fieldEq at h
 split at h
 ·split at h
  ·rename_i h'
   cases h
   rw [bool_of hx, bool_of hy]
   exact ⟨run_equalIn_bool' _ _ _ _ _ (h1 h'), .inl h'⟩
  ·cases h
 ·split at h
  ·rename_i h'
   obtain ⟨h', rfl⟩ := h'
   cases h
   obtain ⟨k', hk'⟩ := h6 h'
   rw [int_of hx, int_of hy]
   exact ⟨run_equalIn_int _ _ _ _ _ _ _ hk', .inr (.inl h')⟩
  ·cases h
 ·split at h
  ·rename_i h'
   cases h
   obtain ⟨a, rfl, ha⟩ := str_of hx
   obtain ⟨b, rfl, hb⟩ := str_of hy
   refine ⟨?_, .inr (.inr h')⟩
   rw [run_equalIn_string _ _ _ _ _ (h7 h'), Lib.toList_data, Lib.toList_data, ha, hb]
  ·cases h
 ·cases h
theorem fieldsEq_sound {N : Nat} {β : At} (d : Nat) (w : World) (A B : Array Value) : ∀ (fs : List Field) (off : Nat) (xs ys : List AV) (u r : Bool), fieldsEq P off fs xs ys = some (u, r) →
  VsRel N β xs (A.toList.drop off) → VsRel N β ys (B.toList.drop off) → (Op.eqFields (d + 1) A B fs).run P w = .ok r w
 | [], off, xs, ys, u, r, h, hx, hy => by
  cases xs <;> cases ys <;> simp only [fieldsEq] at h <;> cases h
  simp [Op.eqFields]
 | f :: fs, off, xs, ys, u, r, h, hx, hy => by
  cases xs with
  | nil => cases ys <;> simp only [fieldsEq] at h <;> cases h
  | cons x xs =>
   cases ys with
   | nil => simp only [fieldsEq] at h; cases h
   | cons y ys =>
    simp only [fieldsEq] at h
    split at h
    ·rename_i hc
     obtain ⟨rfl, hn⟩ := hc
     have hn' : f.name ≠ "_" := by simpa using hn
     obtain ⟨a, ha, hra⟩ := hx.at 0 x (by simp)
     obtain ⟨b, hb, hrb⟩ := hy.at 0 y (by simp)
     have ha' : A[f.offset]? = some a := by simpa [List.getElem?_drop] using ha
     have hb' : B[f.offset]? = some b := by simpa [List.getElem?_drop] using hb
     have hx' : VsRel N β xs (A.toList.drop (f.offset + 1)) := by
      have := hx.drop 1
      simpa [List.drop_drop] using this
     have hy' : VsRel N β ys (B.toList.drop (f.offset + 1)) := by
      have := hy.drop 1
      simpa [List.drop_drop] using this
     split at h
     ·rename_i u1 a1 u2 a2 he hf
      cases h
      obtain ⟨hr, hk⟩ := fieldEq_sound hra hrb he d w
      have ih := fieldsEq_sound d w A B fs (f.offset + 1) xs ys u2 a2 hf hx' hy'
      rw [Op.eqFields]
      simp only [if_pos hn', Sem.run_bind, part_plain hk A _ a ha' w, part_plain hk B _ b hb' w, hr, Result.andThen_ok]
      cases a1 with
      | true => simpa using ih
      | false => simp
     ·cases h
    ·cases h
section eqs
variable {t : TypeId} (d : Nat) (w : World)
theorem eqn_ptr_l {e : TypeId} (he : P.underlying t = some (.pointer e)) (b : Option Addr) : (Op.equalIn (d + 1) t (.pointer none) (.pointer b)).run P w = .ok b.isNone w := by
 cases b <;> simp [Op.equalIn, run_underlying he]
theorem eqn_ptr_r {e : TypeId} (he : P.underlying t = some (.pointer e)) (a : Addr) : (Op.equalIn (d + 1) t (.pointer (some a)) (.pointer none)).run P w = .ok false w := by simp [Op.equalIn, run_underlying he]
theorem eqn_slice_l {e : TypeId} (he : P.underlying t = some (.slice e)) (n c n' c' : Nat) (b : Option Addr) : (Op.equalIn (d + 1) t (.slice none n c) (.slice b n' c')).run P w = .ok b.isNone w := by simp [Op.equalIn, run_underlying he]
theorem eqn_map_l {k e : TypeId} (he : P.underlying t = some (.map k e)) (b : Option Nat) : (Op.equalIn (d + 1) t (.map none) (.map b)).run P w = .ok b.isNone w := by
 cases b <;> simp [Op.equalIn, run_underlying he]
theorem eqn_func_nn {x y : Array TypeId} {z : Bool} (he : P.underlying t = some (.func x y z)) : (Op.equalIn (d + 1) t .nilFunc .nilFunc).run P w = .ok true w := by simp [Op.equalIn, run_underlying he]
theorem eqn_func_nf {x y : Array TypeId} {z : Bool} (he : P.underlying t = some (.func x y z)) (f : Fn) (a b : Array Value) : (Op.equalIn (d + 1) t .nilFunc (.func f a b)).run P w = .ok false w := by simp [Op.equalIn, run_underlying he]
theorem eqn_func_fn {x y : Array TypeId} {z : Bool} (he : P.underlying t = some (.func x y z)) (f : Fn) (a b : Array Value) : (Op.equalIn (d + 1) t (.func f a b) .nilFunc).run P w = .ok false w := by simp [Op.equalIn, run_underlying he]
end eqs
theorem eqRun_of {t : TypeId} {ox oy : Operand} {a b : Value} {r : Bool} {w : World} (hg : ∀ op, (eqGuard op t ox oy a b).run P w = .ok () w)
  (hb : binOp .eql t a b = (do pure (.bool (← Op.equal t a b))) ∧ binOp .neq t a b = (do pure (.bool (!(← Op.equal t a b))))) (he : (Op.equal t a b).run P w = .ok r w) :
  (do eqGuard .eql t ox oy a b; binOp .eql t a b : Sem Value).run P w = .ok (.bool r) w ∧ (do eqGuard .neq t ox oy a b; binOp .neq t a b : Sem Value).run P w = .ok (.bool (!r)) w := by
 constructor
 ·rw [Sem.run_bind, hg, Result.andThen_ok, hb.1, Sem.run_bind, he, Result.andThen_ok, Sem.run_pure]
 ·rw [Sem.run_bind, hg, Result.andThen_ok, hb.2, Sem.run_bind, he, Result.andThen_ok, Sem.run_pure]
theorem sameA_sound {N : Nat} {β : At} {t : TypeId} {x y : AV} {a b : Value} (hx : VRel N β x a) (hy : VRel N β y b) {u r : Bool} (h : sameA P t x y = some (u, r)) (ox oy : Operand) (w : World) :
  (do eqGuard .eql t ox oy a b; binOp .eql t a b : Sem Value).run P w = .ok (.bool r) w ∧ (do eqGuard .neq t ox oy a b; binOp .neq t a b : Sem Value).run P w = .ok (.bool (!r)) w := by
 obtain ⟨h1, h2, h3, h4, h5, _, _⟩ := under_of_kind (P := P) (t := t)
 unfold sameA at h
 split at h
 case h_1 =>
  split at h
  ·rename_i hk
   cases h
   rw [bool_of hx, bool_of hy]
   refine eqRun_of (fun op => by cases op <;> simp [eqGuard]) ⟨rfl, rfl⟩ ?_
   exact run_equalIn_bool' w 9999 _ _ _ (h1 hk)
  ·cases h
 case h_2 =>
  split at h
  ·rename_i hk
   cases h
   obtain ⟨e, he⟩ := h2 hk
   cases hx
   cases hy
   all_goals
    refine eqRun_of (fun op => by cases op <;> simp [eqGuard]) ⟨rfl, rfl⟩ ?_
    first | exact eqn_ptr_l 9999 w he _ | exact eqn_slice_l 9999 w he _ _ _ _ _ | exact eqn_map_l 9999 w he _
  ·cases h
 case h_3 =>
  split at h
  ·rename_i hk
   cases h
   obtain ⟨e, he⟩ := h2 hk
   cases hx
   cases hy
   refine eqRun_of (fun op => by cases op <;> simp [eqGuard]) ⟨rfl, rfl⟩ ?_
   exact eqn_ptr_r 9999 w he _
  ·cases h
 case h_4 =>
  split at h
  ·rename_i hk
   cases h
   obtain ⟨k, e, he⟩ := h4 hk
   cases hx
   cases hy
   all_goals
    refine eqRun_of (fun op => by cases op <;> simp [eqGuard]) ⟨rfl, rfl⟩ ?_
    first | exact eqn_ptr_l 9999 w he _ | exact eqn_slice_l 9999 w he _ _ _ _ _ | exact eqn_map_l 9999 w he _
  ·cases h
 case h_5 => cases hx
 case h_6 =>
  split at h
  ·rename_i hk
   cases h
   obtain ⟨_, _, _, he⟩ := h5 hk
   cases hx
   cases hy
   refine eqRun_of (fun op => by cases op <;> simp [eqGuard]) ⟨rfl, rfl⟩ ?_
   exact eqn_func_nn 9999 w he
  ·cases h
 case h_7 =>
  split at h
  ·rename_i hk
   cases h
   obtain ⟨_, _, _, he⟩ := h5 hk
   cases hx
   cases hy
   refine eqRun_of (fun op => by cases op <;> simp [eqGuard]) ⟨rfl, rfl⟩ ?_
   exact eqn_func_nf 9999 w he _ _ _
  ·cases h
 case h_8 =>
  split at h
  ·rename_i hk
   cases h
   obtain ⟨_, _, _, he⟩ := h5 hk
   cases hx
   cases hy
   refine eqRun_of (fun op => by cases op <;> simp [eqGuard]) ⟨rfl, rfl⟩ ?_
   exact eqn_func_fn 9999 w he _ _ _
  ·cases h
 case h_9 =>
  unfold structEq at h
  split at h
  ·rename_i fs hu
   split at h
   ·rename_i hc
    cases hx with
    | agg xs A hx =>
     cases hy with
     | agg ys B hy =>
      have hf : P.fieldsOf t = fs := by simp [Program.fieldsOf, hu]
      refine eqRun_of (fun op => by cases op <;> first | exact run_eqGuard_agg _ _ _ _ _ _ _ hc.2 | simp [eqGuard]) ⟨rfl, rfl⟩ ?_
      show (Op.equalIn (9999 + 1) t (.agg A) (.agg B)).run P w = _
      rw [run_equalIn_struct (P := P) w 9999 t A B (by rw [hf]; exact hu) hc.1, hf]
      exact fieldsEq_sound 9998 w A B fs.toList 0 _ _ u r h (by simpa using hx) (by simpa using hy)
   ·cases h
  ·cases h
 case h_10 => cases h
end pure_
end Go.Vx
end
section
set_option linter.unusedVariables false
set_option linter.unusedSimpArgs false
namespace Go.Vx
section pure_
variable {P : Program} {o : Oper} {a : Act} {β : At} {H : Heap} {w : World} {m : Tm}
theorem eqGuard_ok (op : BinOp) (t : TypeId) (x y : Operand) (p q : Value) (h : (∀ z, p ≠ .agg z) ∧ p ≠ .nilIface) (w : World) : (eqGuard op t x y p q).run P w = .ok () w := by
 cases op <;> simp [eqGuard]
 all_goals
  cases p <;> cases q <;> simp_all
theorem binA_sound {N : Nat} {op : BinOp} {t : TypeId} {x y v : AV} {p q : Value} (hx : VRel N β x p) (hy : VRel N β y q) (h : binA P op t x y = some v) (ox oy : Operand) (w : World) :
  ∃ c, (do eqGuard op t ox oy p q; binOp op t p q : Sem Value).run P w = .ok c w ∧ VRel N β v c := by
 unfold binA at h
 split at h
 ·rename_i u k n u' k' n'
  rw [int_of hx, int_of hy]
  rw [Sem.run_bind, eqGuard_ok op t ox oy _ _ (by simp) w, Result.andThen_ok]
  split at h
  ·exact ⟨_, (shift_sound h t).1 w, (shift_sound (P := P) (k' := k') h t).2 _ _⟩
  ·exact ⟨_, (shift_sound h t).1 w, (shift_sound (P := P) (k' := k') h t).2 _ _⟩
  ·rename_i h1 h2
   split at h
   ·rename_i e
    subst e
    exact ⟨_, (arith_sound (by simpa using h1) (by simpa using h2) h t).1 w, (arith_sound (P := P) (by simpa using h1) (by simpa using h2) h t).2 _ _⟩
   ·cases h
 ·obtain ⟨b, rfl, hb⟩ := str_of hx
  obtain ⟨b', rfl, hb'⟩ := str_of hy
  rw [Sem.run_bind, eqGuard_ok op t ox oy _ _ (by simp) w, Result.andThen_ok]
  obtain ⟨c, hc, hv⟩ := strA_sound (P := P) hb hb' h t
  exact ⟨c, hc w, hv _ _⟩
 ·split at h
  ·cases hs : sameA P t x y with
   | none => rw [hs] at h; cases h
   | some r => obtain ⟨u, r⟩ := r; rw [hs] at h; cases h; exact ⟨_, (sameA_sound hx hy hs ox oy w).1, .bool _ _⟩
  ·cases hs : sameA P t x y with
   | none => rw [hs] at h; cases h
   | some r => obtain ⟨u, r⟩ := r; rw [hs] at h; cases h; exact ⟨_, (sameA_sound hx hy hs ox oy w).2, .bool _ _⟩
  ·cases h
theorem fits_binOp (hR : Rel β H w) (hT : TRel H.n β m a.tmps) {op : BinOp} {t u : TypeId} {x y : Operand} {p q v : AV} (ho : o.op = .binOp op t x y u) (hx : opnd m x = some p) (hy : opnd m y = some q) (h : binA P op t p q = some v) : Fits P o a β H w v H := by
 obtain ⟨c, hc, hv⟩ := binA_sound (opnd_sound hT hx) (opnd_sound hT hy) h x y w
 refine Fits.same hR (c := c) ?_ hv
 have : execOp a.eval o = (do let z ← (do eqGuard op t x y (a.eval x) (a.eval y); binOp op t (a.eval x) (a.eval y) : Sem Value); pure (.value z)) := by simp only [execOp, ho]
 rw [this, Sem.run_bind, hc, Result.andThen_ok, Sem.run_pure]
theorem unA_sound {N : Nat} {op : UnOp} {x v : AV} {p : Value} (hx : VRel N β x p) (h : unA op x = some v) (w : World) : ∃ c, (Op.unary op p).run P w = .ok c w ∧ VRel N β v c := by
 unfold unA at h
 split at h
 ·cases h; rw [int_of hx]; exact ⟨_, rfl, .int _ _ _⟩
 ·rename_i u k n
  rw [int_of hx]
  have h0 := arith_sound (P := P) (by simp) (by simp) h 0
  refine ⟨_, ?_, h0.2 N β⟩
  have h1 := h0.1 w
  simp only [binOp, ne_eq, not_true, if_false] at h1
  exact h1
 ·cases h; rw [bool_of hx]; exact ⟨_, rfl, .bool _ _⟩
 ·cases h
theorem run_v {s : Sem Value} {c : Value} {w' : World} (h : s.run P w = .ok c w') : (do pure (.value (← s)) : Sem Next).run P w = .ok (.value c) w' := by
 rw [Sem.run_bind, h, Result.andThen_ok, Sem.run_pure]
theorem fits_unOp (hR : Rel β H w) (hT : TRel H.n β m a.tmps) {op : UnOp} {t : TypeId} {x : Operand} {p v : AV} (ho : o.op = .unOp op t x) (hx : opnd m x = some p) (h : unA op p = some v) : Fits P o a β H w v H := by
 obtain ⟨c, hc, hv⟩ := unA_sound (P := P) (opnd_sound hT hx) h w
 refine Fits.same hR (c := c) ?_ hv
 simp only [execOp, ho]
 exact run_v hc
theorem fits_extract (hR : Rel β H w) (hT : TRel H.n β m a.tmps) {x : Operand} {i : Nat} {vs : List AV} {v : AV} (ho : o.op = .extract x i) (hx : opnd m x = some (.tup vs)) (h : vs[i]? = some v) : Fits P o a β H w v H := by
 have hv := opnd_sound hT hx
 cases hq : a.eval x <;> rw [hq] at hv <;> cases hv
 rename_i cs hv
 obtain ⟨c, hc, hr⟩ := hv.at i v h
 refine Fits.same hR (c := c) ?_ hr
 simp only [execOp, ho]
 refine run_v ?_
 have : cs[i]? = some c := by simpa using hc
 simp [hq, Instr.extract, this]
theorem fits_makeFunc (hR : Rel β H w) (hT : TRel H.n β m a.tmps) {fn : Fn} {x y : Array Operand} {p q : List AV} (ho : o.op = .makeFunc fn x y) (hx : opnds m x.toList = some p) (hy : opnds m y.toList = some q) : Fits P o a β H w (.func fn p q) H := by
 refine Fits.same hR (c := .func fn (x.map a.eval) (y.map a.eval)) ?_ (.func _ _ _ _ _ (by simpa using opnds_sound hT hx) (by simpa using opnds_sound hT hy))
 simp only [execOp, ho]
 exact run_v rfl
theorem fits_nilCheck_ptr (hR : Rel β H w) (hT : TRel H.n β m a.tmps) {x : Operand} {t : Bool} {r : Ref} (ho : o.op = .nilCheck x) (hx : opnd m x = some (.ptr t (some r))) : Fits P o a β H w (.ptr t (some r)) H := by
 have hv := opnd_sound hT hx
 refine Fits.same hR (c := a.eval x) ?_ hv
 simp only [execOp, ho]
 cases hq : a.eval x <;> rw [hq] at hv <;> cases hv
 simp
theorem fits_nilCheck_e (hR : Rel β H w) (hT : TRel H.n β m a.tmps) {x : Operand} {t : Ty} {l : List t.den} {e p : Nat} (ho : o.op = .nilCheck x) (hx : opnd m x = some (.eptr t l e p)) : Fits P o a β H w (.eptr t l e p) H := by
 have hv := opnd_sound hT hx
 refine Fits.same hR (c := a.eval x) ?_ hv
 simp only [execOp, ho]
 cases hq : a.eval x <;> rw [hq] at hv <;> cases hv
 simp
theorem fits_nilCheck_func (hR : Rel β H w) (hT : TRel H.n β m a.tmps) {x : Operand} {g : FuncId} {p q : List AV} (ho : o.op = .nilCheck x) (hx : opnd m x = some (.func (.func g) p q)) : Fits P o a β H w (.func (.func g) p q) H := by
 have hv := opnd_sound hT hx
 refine Fits.same hR (c := a.eval x) ?_ hv
 simp only [execOp, ho]
 cases hq : a.eval x <;> rw [hq] at hv <;> cases hv
 simp
theorem slen {s : List UInt8} {b : ByteArray} (h : b.data.toList = s) : b.size = s.length := by rw [← h, Lib.size_eq]
theorem sget {s : List UInt8} {b : ByteArray} (h : b.data.toList = s) (i : Nat) : b[i]? = s[i]? := by
 subst h
 rw [Array.getElem?_toList]
 rfl
theorem part_sound {N : Nat} {t : TypeId} {xs : List AV} {cs : Array Value} {off : Nat} {v : AV} (hx : VsRel N β xs cs.toList) (h : partA P t xs off = some v) (w : World) : ∃ c, (part t cs off).run P w = .ok c w ∧ VRel N β v c := by
 unfold partA at h
 split at h
 ·rename_i s hag hsz
  split at h
  ·rename_i hle
   cases h
   refine ⟨.agg (cs.extract off (off + s)), ?_, .agg _ _ ?_⟩
   ·have h1 : (isAgg t).run P w = .ok true w := by
     unfold isAgg? at hag
     cases hu : P.underlying t with
     | none => rw [hu] at hag; cases hag
     | some d => rw [hu] at hag; cases d <;> simp at hag <;> simp [isAgg, run_underlying hu]
    have h2 : (sizeOf t).run P w = .ok s w := by
     unfold size? at hsz
     cases hi : P.info? t with
     | none => rw [hi] at hsz; cases hsz
     | some i => rw [hi] at hsz; cases hsz; simp [sizeOf, typeInfo, hi]
    simp [part, h1, h2]
   ·have := (hx.drop off).take s
    simpa [Array.toList_extract, List.extract_eq_take_drop] using this
  ·cases h
 ·rename_i hag hsz
  obtain ⟨c, hc, hr⟩ := hx.at off v h
  refine ⟨c, ?_, hr⟩
  have h1 : (isAgg t).run P w = .ok false w := by
   unfold isAgg? at hag
   cases hu : P.underlying t with
   | none => rw [hu] at hag; cases hag
   | some d => rw [hu] at hag; cases d <;> simp at hag <;> simp [isAgg, run_underlying hu]
  have h2 : cs[off]? = some c := by simpa using hc
  simp [part, h1, h2]
 ·cases h
theorem fits_field (hR : Rel β H w) (hT : TRel H.n β m a.tmps) {s : TypeId} {x : Operand} {f : Nat} {xs : List AV} {fd : Field} {v : AV} (ho : o.op = .field s x f) (hx : opnd m x = some (.agg xs)) (hf : fieldOf P s f = some fd) (h : partA P fd.type xs fd.offset = some v) : Fits P o a β H w v H := by
 have hv := opnd_sound hT hx
 cases hq : a.eval x <;> rw [hq] at hv <;> cases hv
 rename_i cs hv
 obtain ⟨c, hc, hr⟩ := part_sound (P := P) hv h w
 refine Fits.same hR (c := c) ?_ hr
 simp only [execOp, ho]
 refine run_v ?_
 unfold fieldOf at hf
 split at hf
 ·rename_i fields hu
  simp [Instr.field, run_underlying hu, hf, hq, asAgg, hc]
 ·cases hf
theorem fits_fieldAddr (hR : Rel β H w) (hT : TRel H.n β m a.tmps) {s : TypeId} {x : Operand} {f k : Nat} {t : Bool} {r : Ref} {fd : Field} (ho : o.op = .fieldAddr s x f) (hx : opnd m x = some (.ptr t (some r))) (hf : fieldOf P s f = some fd) (hs : size? P fd.type = some (k + 1)) :
  Fits P o a β H w (.ptr t (some (r.to fd.offset))) H := by
 have hv := opnd_sound hT hx
 cases hq : a.eval x <;> rw [hq] at hv <;> cases hv
 rename_i ad hg hb
 refine Fits.same hR (c := .pointer (some (ad.add fd.offset))) ?_ (.ptr _ _ _ (by simpa using hg) fun b hb' => ?_)
 ·simp only [execOp, ho]
  refine run_v ?_
  unfold fieldOf at hf
  split at hf
  ·rename_i fields hu
   have h2 : (sizeOf fd.type).run P w = .ok (k + 1) w := by
    unfold size? at hs
    cases hi : P.info? fd.type with
    | none => rw [hi] at hs; cases hs
    | some i => rw [hi] at hs; simp at hs; simp [sizeOf, typeInfo, hi, hs]
   simp [Instr.fieldAt, run_underlying hu, hf, hq, Instr.sureAddr, fieldPlace, h2]
  ·cases hf
 ·obtain ⟨hn, ha⟩ := hb b (by simpa using hb')
  refine ⟨hn, ?_⟩
  rw [ha]
  unfold Addr.add
  split
  ·rename_i e; simp [e]
  ·simp [Nat.add_assoc]
theorem fits_fieldAddr_e (hR : Rel β H w) (hT : TRel H.n β m a.tmps) {s : TypeId} {x : Operand} {f k : Nat} {t : Ty} {l : List t.den} {e p : Nat} {fd : Field} (ho : o.op = .fieldAddr s x f) (hx : opnd m x = some (.eptr t l e p)) (hf : fieldOf P s f = some fd) (hs : size? P fd.type = some (k + 1)) :
  Fits P o a β H w (.eptr t l e (p + fd.offset)) H := by
 have hv := opnd_sound hT hx
 cases hq : a.eval x <;> rw [hq] at hv <;> cases hv
 rename_i b p0 cs h1 h2
 refine Fits.same hR (c := .pointer (some (Addr.add ⟨b, p0 + (e * t.z + p), none⟩ fd.offset))) ?_ ?_
 ·simp only [execOp, ho]
  refine run_v ?_
  unfold fieldOf at hf
  split at hf
  ·rename_i fields hu
   have h2 : (sizeOf fd.type).run P w = .ok (k + 1) w := by
    unfold size? at hs
    cases hi : P.info? fd.type with
    | none => rw [hi] at hs; cases hs
    | some i => rw [hi] at hs; simp at hs; simp [sizeOf, typeInfo, hi, hs]
   simp [Instr.fieldAt, run_underlying hu, hf, hq, Instr.sureAddr, fieldPlace, h2]
  ·cases hf
 ·have : Addr.add ⟨b, p0 + (e * t.z + p), none⟩ fd.offset = ⟨b, p0 + (e * t.z + (p + fd.offset)), none⟩ := by
   unfold Addr.add
   split
   ·rename_i e; simp [e]
   ·simp only [Addr.mk.injEq, true_and, and_true]; omega
  rw [this]
  exact .eptr t l e _ b p0 cs h1 h2
end pure_
end Go.Vx
end
section
set_option linter.unusedVariables false
set_option linter.unusedSimpArgs false
namespace Go.Vx
section pure_
variable {P : Program} {o : Oper} {a : Act} {β : At} {H : Heap} {w : World} {m : Tm}
theorem run_size {t : TypeId} {s : Nat} (h : size? P t = some s) (w : World) : (sizeOf t).run P w = .ok s w := by
 unfold size? at h
 cases hi : P.info? t with
 | none => rw [hi] at h; cases h
 | some i => rw [hi] at h; cases h; simp [sizeOf, typeInfo, hi]
theorem VRel.hot {N : Nat} {v : AV} {c : Value} {u : Bool} (h : VRel N β v c) : VRel N β (v.hot u) c := by
 cases h with
 | bool t b => exact .bool _ _
 | int t k n => exact .int _ _ _
 | str t s b h => exact .str _ _ _ h
 | pnil t => exact .pnil _
 | ptr t r a hg h => exact .ptr _ _ _ hg h
 | snil t z a h => exact .snil _ _ _ h
 | slice t r n z cap a hg hn hs h => exact .slice _ _ _ _ _ _ hg hn hs h
 | vec t l cap a b o cs hn ha h h' => exact .vec t l cap a b o cs hn ha h h'
 | eptr t l e p b o cs h h' => exact .eptr t l e p b o cs h h'
 | mnil => exact .mnil
 | func f xs ys cs ds h h' => exact .func f xs ys cs ds h h'
 | nilFunc => exact .nilFunc
 | nilIface => exact .nilIface
 | agg xs cs h => exact .agg xs cs h
 | tup xs cs h => exact .tup xs cs h
theorem indexA_sound {N : Nat} {t : TypeId} {x ix v : AV} {p q : Value} (hx : VRel N β x p) (hi : VRel N β ix q) (h : indexA P t x ix = some v) (w : World) : ∃ c, (Instr.index t p q).run P w = .ok c w ∧ VRel N β v c := by
 unfold indexA at h
 split at h
 ·rename_i tt s uu k i hu
  obtain ⟨b, rfl, hb⟩ := str_of hx
  rw [int_of hi]
  split at h
  ·rename_i h0
   cases hs : s[i.toNat]? with
   | none => rw [hs] at h; cases h
   | some u =>
    rw [hs] at h
    cases h
    have hb' : b[i.toNat]? = some u := by rw [sget hb]; exact hs
    exact ⟨.int .u8 u.toNat, by simp [Instr.index, asIntOf, run_underlying hu, h0, hb'], .int _ _ _⟩
  ·cases h
 ·rename_i n e xs uu k i hu
  split at h
  ·rename_i s hs
   split at h
   ·rename_i hb
    cases hx with
    | agg _ cs hx =>
     rw [int_of hi]
     obtain ⟨v0, hv0, rfl⟩ := Option.map_eq_some_iff.1 h
     obtain ⟨c, hc, hr⟩ := part_sound (P := P) hx hv0 w
     exact ⟨c, by simp [Instr.index, asIntOf, run_underlying hu, hb, run_size hs, hc], hr.hot⟩
   ·cases h
  ·cases h
 ·cases h
theorem add_add (ad : Addr) (b : Base) (i k : Nat) (h : ad = ⟨b.blk, b.off + i, none⟩) : ad.add k = ⟨b.blk, b.off + (i + k), none⟩ := by
 subst h
 unfold Addr.add
 split
 ·rename_i e; simp [e]
 ·simp [Nat.add_assoc]
theorem indexAddrA_sound {N : Nat} {t : TypeId} {x ix v : AV} {p q : Value} (hx : VRel N β x p) (hi : VRel N β ix q) (h : indexAddrA P t x ix = some v) (w : World) : ∃ c, (Instr.indexAt t p q).run P w = .ok c w ∧ VRel N β v c := by
 unfold indexAddrA at h
 split at h
 ·rename_i e tt l uu k i hu
  split at h
  ·rename_i hc
   cases h
   obtain ⟨hs, h0, h1⟩ := hc
   rw [int_of hi]
   cases hx with
   | vec _ _ cap a b o cs hn ha h h' =>
    rw [ha.1 (by omega)]
    refine ⟨.pointer (some (Addr.add ⟨b, o, none⟩ (i.toNat * tt.z))), by simp [Instr.indexAt, asIntOf, run_underlying hu, h0, h1, run_size hs], ?_⟩
    have : Addr.add ⟨b, o, none⟩ (i.toNat * tt.z) = ⟨b, o + (i.toNat * tt.z + 0), none⟩ := by
     unfold Addr.add
     split
     ·rename_i e; simp [e]
     ·simp
    rw [this]
    exact .eptr _ _ _ _ _ _ cs h h'
  ·cases h
 ·rename_i e tt r n z uu k i hu
  split at h
  ·rename_i s hs
   split at h
   ·rename_i hb
    cases h
    rw [int_of hi]
    cases hx with
    | slice _ _ _ _ cap a hg hn hsm hbb =>
     have hcap : 0 < cap := by omega
     cases a with
     | none => have := hsm rfl; omega
     | some ad =>
      refine ⟨.pointer (some (ad.add (i.toNat * s))), by simp [Instr.indexAt, asIntOf, run_underlying hu, hb, run_size hs], .ptr _ _ _ (by simpa using hg) fun b hb' => ?_⟩
      obtain ⟨h1, h2⟩ := hbb b (by simpa using hb')
      cases hnl : b.nil with
      | true => have := h1 hnl; omega
      | false =>
       refine ⟨rfl, ?_⟩
       rw [Ref.el_i]
       have := (h2 hnl).1 hcap
       simp only [Option.some.injEq] at this
       exact add_add _ _ _ _ this
   ·cases h
  ·cases h
 ·rename_i n e tt r uu k i hu
  split at h
  ·rename_i s hs
   split at h
   ·rename_i hb
    cases h
    rw [int_of hi]
    cases hx with
    | ptr _ _ ad hg hbb =>
     refine ⟨.pointer (some (ad.add (i.toNat * s))), by simp [Instr.indexAt, asIntOf, run_underlying hu, hb, run_size hs, Instr.sureAddr], .ptr _ _ _ (by simpa using hg) fun b hb' => ?_⟩
     obtain ⟨h1, h2⟩ := hbb b (by simpa using hb')
     exact ⟨h1, by rw [Ref.elA_i]; exact add_add _ _ _ _ h2⟩
   ·cases h
  ·cases h
 ·rename_i n e tt l q pp uu k i hu
  split at h
  ·rename_i s hs
   split at h
   ·rename_i hb
    cases h
    rw [int_of hi]
    cases hx with
    | eptr _ _ _ _ b o cs h h' =>
     refine ⟨.pointer (some (Addr.add ⟨b, o + (q * tt.z + pp), none⟩ (i.toNat * s))), by simp [Instr.indexAt, asIntOf, run_underlying hu, hb, run_size hs, Instr.sureAddr], ?_⟩
     have : Addr.add ⟨b, o + (q * tt.z + pp), none⟩ (i.toNat * s) = ⟨b, o + (q * tt.z + (pp + i.toNat * s)), none⟩ := by
      unfold Addr.add
      split
      ·rename_i e; simp [e]
      ·simp; omega
     rw [this]
     exact .eptr _ _ _ _ _ _ cs h h'
   ·cases h
  ·cases h
 ·cases h
theorem fits_index (hR : Rel β H w) (hT : TRel H.n β m a.tmps) {t : TypeId} {x y : Operand} {p q v : AV} (ho : o.op = .index t x y) (hx : opnd m x = some p) (hy : opnd m y = some q) (h : indexA P t p q = some v) : Fits P o a β H w v H := by
 obtain ⟨c, hc, hv⟩ := indexA_sound (opnd_sound hT hx) (opnd_sound hT hy) h w
 refine Fits.same hR (c := c) ?_ hv
 simp only [execOp, ho]
 exact run_v hc
theorem fits_indexAddr (hR : Rel β H w) (hT : TRel H.n β m a.tmps) {t : TypeId} {x y : Operand} {p q v : AV} (ho : o.op = .indexAddr t x y) (hx : opnd m x = some p) (hy : opnd m y = some q) (h : indexAddrA P t p q = some v) : Fits P o a β H w v H := by
 obtain ⟨c, hc, hv⟩ := indexAddrA_sound (opnd_sound hT hx) (opnd_sound hT hy) h w
 refine Fits.same hR (c := c) ?_ hv
 simp only [execOp, ho]
 exact run_v hc
def BRel (x : Option AV) (c : Option Value) : Prop := (x = none ∧ c = none) ∨ ∃ t k n, x = some (.int t k n) ∧ c = some (.int k n)
theorem bound_run {k : IntKind} {n : Int} {y : Nat} (h0 : 0 ≤ n) (h1 : n ≤ y) (code : BoundsCode) (w : World) : (Instr.sliceBound (.int k n) y code).run P w = .ok n.toNat w := by
 simp [Instr.sliceBound, asIntOf, h0, h1]
theorem bounds_run {lo hi : Option AV} {cl ch : Option Value} (hl : BRel lo cl) (hh : BRel hi ch) {len cap : Nat} (hc : len ≤ cap) {l h : Int} (el : boundOf 0 lo = some l) (eh : boundOf len hi = some h)
  (h0 : 0 ≤ l) (h1 : l ≤ h) (h2 : h ≤ len) (b : Bool) (w : World) : (Instr.sliceBounds b len cap cl ch none).run P w = .ok (l.toNat, h.toNat, cap) w := by
 rcases hl with ⟨rfl, rfl⟩ | ⟨u, k, n, rfl, rfl⟩ <;> rcases hh with ⟨rfl, rfl⟩ | ⟨u', k', n', rfl, rfl⟩ <;> simp only [boundOf, Option.some.injEq] at el eh <;> subst el <;> subst eh
 ·simp [Instr.sliceBounds]
 ·simp [Instr.sliceBounds, bound_run (P := P) (k := k') (n := n') (y := cap) (by omega) (by omega)]
 ·simp [Instr.sliceBounds, bound_run (P := P) (k := k) (n := n) (y := len) (by omega) (by omega)]
 ·have e : ((n'.toNat : Nat) : Int) = n' := by omega
  simp [Instr.sliceBounds, bound_run (P := P) (k := k') (n := n') (y := cap) (by omega) (by omega), bound_run (P := P) (k := k) (n := n) (y := n'.toNat) (by omega) (by omega)]
theorem bounds_run2 {lo hi : Option AV} {cl ch : Option Value} (hl : BRel lo cl) (hh : BRel hi ch) {len : Nat} {l h : Int} (el : boundOf 0 lo = some l) (eh : boundOf len hi = some h)
  (h0 : 0 ≤ l) (h1 : l ≤ h) (h2 : h ≤ len) (b : Bool) (w : World) : (Instr.sliceBounds b len len cl ch none).run P w = .ok (l.toNat, h.toNat, len) w := bounds_run hl hh (Nat.le_refl _) el eh h0 h1 h2 b w
theorem sliceOp_sound {N : Nat} {t : TypeId} {x v : AV} {p : Value} {lo hi : Option AV} {cl ch : Option Value} (hx : VRel N β x p) (hl : BRel lo cl) (hh : BRel hi ch) (h : sliceOp P t x lo hi = some v) (w : World) :
  ∃ c, (Instr.sliceAt t p cl ch none).run P w = .ok c w ∧ VRel N β v c := by
 unfold sliceOp at h
 split at h
 ·rename_i tt s hu
  split at h
  ·rename_i l u el eu
   split at h
   ·rename_i hb
    cases h
    obtain ⟨b, rfl, hb'⟩ := str_of hx
    have hlen := slen hb'
    refine ⟨.string (b.extract l.toNat u.toNat), ?_, .str _ _ _ ?_⟩
    ·have := bounds_run2 (P := P) hl hh (len := b.size) el (by rw [hlen]; exact eu) hb.1 hb.2.1 (by rw [hlen]; exact hb.2.2) false w
     simp [Instr.sliceAt, Instr.slice, run_underlying hu, this]
    ·rw [Lib.extract_data, hb', List.drop_take]
   ·cases h
  ·cases h
 ·rename_i e tt r n sz hu
  split at h
  ·rename_i l u el eu
   split at h
   ·rename_i hb
    split at h
    ·cases h
    ·rename_i s hs
     cases hx with
     | snil _ _ a hz0 =>
      cases h
      have hr := bounds_run2 (P := P) hl hh (len := 0) el eu hb.1 hb.2.1 hb.2.2 true w
      have hu0 : u.toNat = 0 := by omega
      have hl0 : l.toNat = 0 := by omega
      refine ⟨.slice a 0 0, ?_, .snil _ _ _ hz0⟩
      simp only [Instr.sliceAt, Instr.slice, Sem.run_bind, run_underlying hu, Result.andThen_ok, hr, run_size hs, hu0, hl0]
      cases a <;> simp
     | slice _ r _ _ cap a hg hn hsm hbb =>
      simp only at h
      split at h
      ·rename_i hs'
       subst hs'
       cases h
       have hr := bounds_run (P := P) hl hh hn el eu hb.1 hb.2.1 hb.2.2 true w
       refine ⟨.slice (a.map fun ad => if cap = l.toNat then ad else ad.add (l.toNat * s)) (u.toNat - l.toNat) (cap - l.toNat), ?_, ?_⟩
       ·simp only [Instr.sliceAt, Instr.slice, Sem.run_bind, run_underlying hu, Result.andThen_ok, hr, run_size hs]
        cases a <;> by_cases e : cap = l.toNat <;> simp [e]
       ·have e1 : (u - l).toNat = u.toNat - l.toNat := by omega
        rw [e1]
        refine .slice _ _ _ _ _ _ (by simpa using hg) (by omega) ?_ fun b hb' => ?_
        ·intro ha
         cases a with
         | none => have := hsm rfl; omega
         | some ad => cases ha
        ·obtain ⟨h1, h2⟩ := hbb b (by simpa using hb')
         refine ⟨fun hnl => ⟨by have := h1 hnl; omega, fun hr => by have := (h1 hnl).2 hr; omega⟩, fun hnl => ?_⟩
         obtain ⟨h3, h4⟩ := h2 hnl
         rw [Ref.el_i]
         constructor
         ·intro hc
          rw [h3 (by omega), Option.map_some, if_neg (by omega)]
          exact congrArg some (add_add _ _ _ _ rfl)
         ·have : cap * s = l.toNat * s + (cap - l.toNat) * s := by rw [← Nat.add_mul]; congr 1; omega
          omega
      ·cases h
   ·cases h
  ·cases h
 ·rename_i e tt s hu
  split at h
  ·rename_i l u el eu
   split at h
   ·rename_i hb
    cases h
    obtain ⟨h0, h1, h2, hs⟩ := hb
    cases hx with
    | vec _ _ cap a b o cs hn ha hh1 hh2 =>
     have hr := bounds_run (P := P) hl hh hn el eu h0 h1 h2 true w
     have hlen : ((s.take u.toNat).drop l.toNat).length = u.toNat - l.toNat := by
      have : u.toNat ≤ s.length := by omega
      simp only [List.length_drop, List.length_take]; omega
     refine ⟨.slice (a.map fun ad => if cap = l.toNat then ad else ad.add (l.toNat * tt.z)) (u.toNat - l.toNat) (cap - l.toNat), ?_, ?_⟩
     ·simp only [Instr.sliceAt, Instr.slice, Sem.run_bind, run_underlying hu, Result.andThen_ok, hr, run_size hs]
      cases a <;> by_cases e : cap = l.toNat <;> simp [e]
     ·rw [← hlen]
      have hk : ∀ k v, (encL tt ((s.take u.toNat).drop l.toNat))[k]? = some v → (encL tt s)[l.toNat * tt.z + k]? = some v := by
       intro k v hv
       rw [encL_drop, encL_take, List.getElem?_drop] at hv
       have hlt : l.toNat * tt.z + k < u.toNat * tt.z := by
        have := (List.getElem?_eq_some_iff.1 hv).1
        simp only [List.length_take] at this
        omega
       rwa [List.getElem?_take_of_lt hlt] at hv
      refine .vec _ _ _ _ b (o + l.toNat * tt.z) (fun k => cs (l.toNat * tt.z + k)) (by rw [hlen]; omega) ?_ (fun k v hv => ?_) (fun k v hv => hh2 _ _ (hk k v hv))
      ·refine ⟨fun hc => ?_, fun hna => ?_⟩
       ·rw [hlen] at hc
        rw [ha.1 (by omega), Option.map_some, if_neg (by omega)]
        refine congrArg some ?_
        unfold Addr.add
        split
        ·rename_i e; simp [e]
        ·rfl
       ·cases a with
        | none => have := ha.2 rfl; omega
        | some _ => cases hna
      ·have := hh1 _ _ (hk k v hv)
       rwa [← Nat.add_assoc] at this
   ·cases h
  ·cases h
 ·cases h
theorem bound3 {x : Option AV} {c : Option Value} (hx : BRel x c) (hb : boundOf 0 x = some 0) : c = none ∨ ∃ k, c = some (.int k 0) := by
 rcases hx with ⟨rfl, rfl⟩ | ⟨t, k, n, rfl, rfl⟩
 ·exact .inl rfl
 ·simp only [boundOf, Option.some.injEq] at hb
  subst hb
  exact .inr ⟨k, rfl⟩
theorem bound_zero {k : IntKind} (y : Nat) (code : BoundsCode) (w : World) : (Instr.sliceBound (.int k 0) y code).run P w = .ok 0 w := by
 simp [Instr.sliceBound, asIntOf]
theorem bounds_run3 {lo hi : Option AV} {cl ch : Option Value} {km : IntKind} (hl : BRel lo cl) (hh : BRel hi ch) (el : boundOf 0 lo = some 0) (hh' : hi ≠ none) (eh : boundOf 0 hi = some 0) (len cap : Nat) (b : Bool) (w : World) :
  (Instr.sliceBounds b len cap cl ch (some (.int km 0))).run P w = .ok (0, 0, 0) w := by
 have e2 : ∃ k, ch = some (.int k 0) := by
  rcases hh with ⟨rfl, rfl⟩ | ⟨t, k, n, rfl, rfl⟩
  ·exact absurd rfl hh'
  ·simp only [boundOf, Option.some.injEq] at eh
   subst eh
   exact ⟨k, rfl⟩
 obtain ⟨k2, rfl⟩ := e2
 rcases bound3 hl el with rfl | ⟨k, rfl⟩ <;> simp [Instr.sliceBounds, bound_zero (P := P)]
theorem sliceOp3_sound {N : Nat} {t : TypeId} {x v : AV} {p : Value} {lo hi mx : Option AV} {cl ch cm : Option Value} (hx : VRel N β x p) (hl : BRel lo cl) (hh : BRel hi ch) (hm : BRel mx cm) (hm' : mx ≠ none) (h : sliceOp3 P t x lo hi mx = some v) (w : World) :
  ∃ c, (Instr.sliceAt t p cl ch cm).run P w = .ok c w ∧ VRel N β v c := by
 have hmm : ∀ {m : Int}, boundOf 0 mx = some m → m = 0 → ∃ k, cm = some (.int k 0) := by
  intro m e e0
  rcases hm with ⟨rfl, rfl⟩ | ⟨t, k, n, rfl, rfl⟩
  ·exact absurd rfl hm'
  ·simp only [boundOf, Option.some.injEq] at e
   subst e
   subst e0
   exact ⟨k, rfl⟩
 unfold sliceOp3 at h
 split at h
 ·rename_i e tt r n sz hu
  split at h
  ·rename_i l u m el eu em
   split at h
   ·rename_i hc
    cases h
    obtain ⟨rfl, rfl, rfl, hs, hsm⟩ := hc
    have hh' : hi ≠ none := fun e => by rw [e] at hsm; cases hsm
    obtain ⟨k, rfl⟩ := hmm em rfl
    obtain ⟨s, hs⟩ : ∃ s, size? P e = some s := by
     cases hs' : size? P e with
     | none => exact absurd hs' hs
     | some s => exact ⟨s, rfl⟩
    obtain ⟨a, n, cap, rfl⟩ : ∃ a n cap, p = .slice a n cap := by cases hx <;> exact ⟨_, _, _, rfl⟩
    have hr := bounds_run3 (P := P) (km := k) hl hh el hh' eu n cap true w
    refine ⟨.slice a 0 0, ?_, .snil _ _ _ (fun h => by cases h)⟩
    simp only [Instr.sliceAt, Instr.slice, Sem.run_bind, run_underlying hu, Result.andThen_ok, hr, run_size hs]
    cases a <;> simp
   ·cases h
  ·cases h
 ·rename_i e tt l0 hu
  split at h
  ·rename_i l u m el eu em
   split at h
   ·rename_i hc
    cases h
    obtain ⟨rfl, rfl, rfl, hs, hsm⟩ := hc
    have hh' : hi ≠ none := fun e => by rw [e] at hsm; cases hsm
    obtain ⟨k, rfl⟩ := hmm em rfl
    obtain ⟨s, hs⟩ : ∃ s, size? P e = some s := by
     cases hs' : size? P e with
     | none => exact absurd hs' hs
     | some s => exact ⟨s, rfl⟩
    obtain ⟨a, n, cap, rfl⟩ : ∃ a n cap, p = .slice a n cap := by cases hx; exact ⟨_, _, _, rfl⟩
    have hr := bounds_run3 (P := P) (km := k) hl hh el hh' eu n cap true w
    refine ⟨.slice a 0 0, ?_, .snil _ _ _ (fun h => by cases h)⟩
    simp only [Instr.sliceAt, Instr.slice, Sem.run_bind, run_underlying hu, Result.andThen_ok, hr, run_size hs]
    cases a <;> simp
   ·cases h
  ·cases h
 ·cases h
theorem opt_sound {N : Nat} (hT : TRel N β m a.tmps) {x : Option Operand} {y : Option AV} (h : optOpnd m x = some y) (d : Nat) (l : Int) (hb : boundOf d y = some l) : BRel y (x.map a.eval) := by
 cases x with
 | none => cases h; exact .inl ⟨rfl, rfl⟩
 | some x =>
  simp only [optOpnd] at h
  cases hx : opnd m x with
  | none => rw [hx] at h; cases h
  | some v =>
   rw [hx] at h
   cases h
   have hv := opnd_sound hT hx
   cases v <;> simp only [boundOf] at hb <;> try (first | cases hb; done)
   exact .inr ⟨_, _, _, rfl, by rw [Option.map_some, int_of hv]⟩
theorem fits_slice (hR : Rel β H w) (hT : TRel H.n β m a.tmps) {t : TypeId} {x : Operand} {lo hi : Option Operand} {p v : AV} {l u : Option AV} (ho : o.op = .slice t x lo hi none) (hx : opnd m x = some p) (hl : optOpnd m lo = some l) (hh : optOpnd m hi = some u) (h : sliceOp P t p l u = some v) : Fits P o a β H w v H := by
 have hbl : ∃ d q, boundOf d l = some q := by
  unfold sliceOp at h
  split at h
  ·split at h
   ·rename_i q _ e _; exact ⟨_, q, e⟩
   ·cases h
  ·split at h
   ·rename_i q _ e _; exact ⟨_, q, e⟩
   ·cases h
  ·split at h
   ·rename_i q _ e _; exact ⟨_, q, e⟩
   ·cases h
  ·cases h
 have hbu : ∃ d q, boundOf d u = some q := by
  unfold sliceOp at h
  split at h
  ·split at h
   ·rename_i _ q _ e; exact ⟨_, q, e⟩
   ·cases h
  ·split at h
   ·rename_i _ q _ e; exact ⟨_, q, e⟩
   ·cases h
  ·split at h
   ·rename_i _ q _ e; exact ⟨_, q, e⟩
   ·cases h
  ·cases h
 obtain ⟨d, q, e⟩ := hbl
 obtain ⟨d', q', e'⟩ := hbu
 obtain ⟨c, hc, hv⟩ := sliceOp_sound (opnd_sound hT hx) (opt_sound hT hl d q e) (opt_sound hT hh d' q' e') h w
 refine Fits.same hR (c := c) ?_ hv
 simp only [execOp, ho, Option.map_none]
 exact run_v hc
theorem fits_slice3 (hR : Rel β H w) (hT : TRel H.n β m a.tmps) {t : TypeId} {x mx : Operand} {lo hi : Option Operand} {p q v : AV} {l u : Option AV} (ho : o.op = .slice t x lo hi (some mx)) (hx : opnd m x = some p) (hl : optOpnd m lo = some l) (hh : optOpnd m hi = some u) (hq : opnd m mx = some q) (h : sliceOp3 P t p l u (some q) = some v) : Fits P o a β H w v H := by
 have hb : (∃ d y, boundOf d l = some y) ∧ (∃ d y, boundOf d u = some y) ∧ (∃ d y, boundOf d (some q) = some y) := by
  unfold sliceOp3 at h
  split at h
  ·split at h
   ·rename_i e1 e2 e3; exact ⟨⟨_, _, e1⟩, ⟨_, _, e2⟩, ⟨_, _, e3⟩⟩
   ·cases h
  ·split at h
   ·rename_i e1 e2 e3; exact ⟨⟨_, _, e1⟩, ⟨_, _, e2⟩, ⟨_, _, e3⟩⟩
   ·cases h
  ·cases h
 obtain ⟨⟨d, y, e⟩, ⟨d', y', e'⟩, ⟨d2, y2, e2⟩⟩ := hb
 have hqm : optOpnd m (some mx) = some (some q) := by simp only [optOpnd, hq, Option.map_some]
 obtain ⟨c, hc, hv⟩ := sliceOp3_sound (opnd_sound hT hx) (opt_sound hT hl d y e) (opt_sound hT hh d' y' e') (opt_sound hT hqm d2 y2 e2) (by simp) h w
 refine Fits.same hR (c := c) ?_ hv
 simp only [execOp, ho, Option.map_some]
 exact run_v hc
theorem fold_set (off : Nat) : ∀ (l : List Value) (k : Nat) (cs : Array Value), off + k + l.length ≤ cs.size →
  ((l.zipIdx k).foldl (fun cs p => cs.setIfInBounds (off + p.2) p.1) cs).toList = cs.toList.take (off + k) ++ l ++ cs.toList.drop (off + k + l.length)
 | [], k, cs, h => by simp
 | x :: l, k, cs, h => by
  simp only [List.zipIdx_cons, List.foldl_cons]
  rw [fold_set off l (k + 1) (cs.setIfInBounds (off + k) x) (by simp at h ⊢; omega)]
  simp only [Array.toList_setIfInBounds, List.length_cons]
  have hlt : off + k < cs.toList.length := by simp at h ⊢; omega
  have e1 : (cs.toList.set (off + k) x).take (off + (k + 1)) = cs.toList.take (off + k) ++ [x] := by
   rw [show off + (k + 1) = (off + k) + 1 from by omega, List.take_succ_eq_append_getElem (by simpa using hlt), List.take_set_of_le (Nat.le_refl _)]
   simp
  have e2 : (cs.toList.set (off + k) x).drop (off + (k + 1) + l.length) = cs.toList.drop (off + k + (l.length + 1)) := by
   rw [List.drop_set_of_lt (by omega)]
   congr 1
   omega
  rw [e1, e2]
  simp
theorem fill_sound {N : Nat} {place : Nat → Option (Nat × Nat)} : ∀ (ps : List (Nat × AV)) (qs : List (Nat × Value)) (cells out : List AV) (cs : Array Value), fillA place cells ps = some out →
  ps.map (·.1) = qs.map (·.1) → VsRel N β (ps.map (·.2)) (qs.map (·.2)) → VsRel N β cells cs.toList → ∃ ds, Instr.fill place cs qs = some ds ∧ VsRel N β out ds.toList
 | [], qs, cells, out, cs, h, hi, hv, hc => by
  cases qs with
  | nil => simp only [fillA] at h; cases h; exact ⟨cs, rfl, hc⟩
  | cons q qs => simp at hi
 | (i, v) :: ps, qs, cells, out, cs, h, hi, hv, hc => by
  cases qs with
  | nil => simp at hi
  | cons q qs =>
   obtain ⟨j, c⟩ := q
   simp only [List.map_cons, List.cons.injEq] at hi hv
   obtain ⟨rfl, hi⟩ := hi
   cases hv with
   | cons _ _ _ _ hv hvs =>
    simp only [fillA] at h
    split at h
    ·cases h
    ·rename_i off size hp
     split at h
     ·rename_i hle
      have hcells := hv.cells
      have hl := hcells.length
      have hl2 := hc.length
      simp only [Array.length_toList] at hl hl2
      have h1 : ¬ (c.cells.size ≠ size ∨ off + c.cells.size > cs.size) := by omega
      simp only [Instr.fill, hp]
      have h2 : (c.cells.size ≠ size || decide (off + c.cells.size > cs.size)) = false := by simp; omega
      have hset : VsRel N β (splice cells off v.cells) (c.cells.zipIdx.foldl (fun cs p => cs.setIfInBounds (off + p.2) p.1) cs).toList := by
       rw [← Array.foldl_toList, Array.toList_zipIdx]
       have := fold_set off c.cells.toList 0 cs (by simp; omega)
       rw [this]
       unfold splice
       rw [hcells.length]
       exact ((hc.take _).append hcells).append (hc.drop _)
      obtain ⟨ds, hd, hr⟩ := fill_sound ps qs _ out _ h hi hvs hset
      refine ⟨ds, ?_, hr⟩
      rw [← hd]
      simp only [h2]
      rfl
     ·cases h
theorem zero_sound {N : Nat} {t : TypeId} {z : AV} (h : zero? P t = some z) (w : World) : ∃ c, (zeroValue t).run P w = .ok c w ∧ VRel N β z c := by
 unfold zero? at h
 cases hi : P.info? t with
 | none => rw [hi] at h; cases h
 | some i =>
  rw [hi] at h
  simp only [Option.bind_some] at h
  cases hz : i.zero with
  | none => rw [hz] at h; cases h
  | some c => rw [hz] at h; exact ⟨c, by simp [zeroValue, typeInfo, hi, hz], ofConst_sound h⟩
theorem partsA_sound {N : Nat} (hT : TRel N β m a.tmps) : ∀ {l : List (Nat × Operand)} {ps : List (Nat × AV)}, partsA m l = some ps →
  ps.map (·.1) = (l.map fun p => (p.1, a.eval p.2)).map (·.1) ∧ VsRel N β (ps.map (·.2)) ((l.map fun p => (p.1, a.eval p.2)).map (·.2))
 | [], ps, h => by cases h; exact ⟨rfl, .nil⟩
 | (i, x) :: l, ps, h => by
  simp only [partsA] at h
  split at h
  ·rename_i b bs h1 h2
   cases h
   obtain ⟨e, r⟩ := partsA_sound hT h2
   exact ⟨by simp [e], .cons _ _ _ _ (opnd_sound hT h1) r⟩
  ·cases h
theorem places_sound : ∀ {fs : List Field} {pl : List (Nat × Nat)}, placesA P fs = some pl → ∀ w : World, (fs.mapM (fun f => do pure (f.offset, ← sizeOf f.type) : Field → Sem (Nat × Nat))).run P w = .ok pl w
 | [], pl, h, w => by cases h; simp
 | f :: fs, pl, h, w => by
  simp only [placesA] at h
  split at h
  ·rename_i s l h1 h2
   cases h
   have ih := places_sound h2 w
   simp only [List.mapM_cons, Sem.run_bind, run_size h1, Result.andThen_ok, Sem.run_pure, ih]
  ·cases h
theorem fits_build_struct (hR : Rel β H w) (hT : TRel H.n β m a.tmps) {t : TypeId} {parts : Array (Nat × Operand)} {z : AV} {ps : List (Nat × AV)} {fields : Array Field} {pl : List (Nat × Nat)} {cs : List AV} (ho : o.op = .build t parts)
  (hz : zero? P t = some z) (hp : partsA m parts.toList = some ps) (hu : P.underlying t = some (.struct fields)) (hpl : placesA P fields.toList = some pl) (h : fillA (fun i => pl[i]?) z.cells ps = some cs) : Fits P o a β H w (.agg cs) H := by
 obtain ⟨c, hc, hzc⟩ := zero_sound (N := H.n) (β := β) hz w
 obtain ⟨e1, e2⟩ := partsA_sound hT hp
 obtain ⟨ds, hd, hr⟩ := fill_sound ps _ z.cells cs c.cells h e1 e2 hzc.cells
 refine Fits.same hR (c := .agg ds) ?_ (.agg _ _ hr)
 simp only [execOp, ho]
 refine run_v ?_
 have hm : (fields.mapM (fun f => do pure (f.offset, ← sizeOf f.type) : Field → Sem (Nat × Nat))).run P w = .ok pl.toArray w := by
  rw [Array.mapM_eq_mapM_toList, Sem.run_map, places_sound hpl w]
  rfl
 have hq : (fun (i : Nat) => (pl.toArray)[i]?) = fun (i : Nat) => pl[i]? := by funext i; simp
 simp only [Instr.build, Sem.run_bind, hc, Result.andThen_ok, run_underlying hu, hm, Array.toList_map, hq, hd, Sem.run_pure]
theorem fits_build_array (hR : Rel β H w) (hT : TRel H.n β m a.tmps) {t e : TypeId} {n s : Nat} {parts : Array (Nat × Operand)} {z : AV} {ps : List (Nat × AV)} {cs : List AV} (ho : o.op = .build t parts)
  (hz : zero? P t = some z) (hp : partsA m parts.toList = some ps) (hu : P.underlying t = some (.array n e)) (hs : size? P e = some s) (h : fillA (fun i => some (i * s, s)) z.cells ps = some cs) : Fits P o a β H w (.agg cs) H := by
 obtain ⟨c, hc, hzc⟩ := zero_sound (N := H.n) (β := β) hz w
 obtain ⟨e1, e2⟩ := partsA_sound hT hp
 obtain ⟨ds, hd, hr⟩ := fill_sound ps _ z.cells cs c.cells h e1 e2 hzc.cells
 refine Fits.same hR (c := .agg ds) ?_ (.agg _ _ hr)
 simp only [execOp, ho]
 refine run_v ?_
 simp only [Instr.build, Sem.run_bind, hc, Result.andThen_ok, run_underlying hu, run_size hs, Array.toList_map, hd, Sem.run_pure]
end pure_
end Go.Vx
end
section
set_option linter.unusedVariables false
set_option linter.unusedSimpArgs false
namespace Go.Vx
section mem
variable {P : Program} {o : Oper} {a : Act} {β : At} {H : Heap} {w : World} {m : Tm}
theorem agg_run {t : TypeId} {b : Bool} (h : isAgg? P t = some b) (w : World) : (isAgg t).run P w = .ok b w := by
 unfold isAgg? at h
 cases hu : P.underlying t with
 | none => rw [hu] at h; cases h
 | some d => rw [hu] at h; cases d <;> simp at h <;> subst h <;> simp [isAgg, run_underlying hu]
theorem place_add (b : Base) (i j : Nat) : (⟨b.blk, b.off + i, none⟩ : Addr).add j = ⟨b.blk, b.off + (i + j), none⟩ := add_add _ b i j rfl
theorem cells_read {N : Nat} {cs : List AV} {ro : Bool} {b : Base} (hl : Lies N β w cs ro b) (i n : Nat) (h : i + n ≤ cs.length) :
  ∃ vs : List Value, vs.length = n ∧ (∀ j v, vs[j]? = some v → w.cell? ((⟨b.blk, b.off + i, none⟩ : Addr).add j) = some v) ∧ VsRel N β ((cs.drop i).take n) vs := by
 induction n with
 | zero => exact ⟨[], rfl, fun j v hv => by simp at hv, by simpa using .nil⟩
 | succ n ih =>
  obtain ⟨vs, hlen, hc, hr⟩ := ih (by omega)
  obtain ⟨c, hc1, hr1⟩ := hl.cell (i + n) cs[i + n] (List.getElem?_eq_getElem (by omega))
  refine ⟨vs ++ [c], by simp [hlen], fun j v hv => ?_, ?_⟩
  ·rcases Nat.lt_or_ge j n with hj | hj
   ·rw [List.getElem?_append_left (by omega)] at hv
    exact hc j v hv
   ·have : j = n := by
     have := (List.getElem?_eq_some_iff.1 hv).1
     simp [hlen] at this
     omega
    subst this
    rw [List.getElem?_append_right (by omega)] at hv
    simp [hlen] at hv
    subst hv
    rw [place_add]
    exact hc1
  ·have e : (cs.drop i).take (n + 1) = (cs.drop i).take n ++ [cs[i + n]] := by
    rw [List.take_succ_eq_append_getElem (by simp; omega)]
    simp
   rw [e]
   exact hr.append (.one hr1)
theorem loadV_sound (hR : Rel β H w) {t : TypeId} {u : Bool} {r : Ref} {v : AV} {c : Value} (hx : VRel H.n β (.ptr u (some r)) c) (h : loadV P H t r = some v) : ∃ d, (Instr.loadAt t c).run P w = .ok d w ∧ VRel H.n β v d := by
 cases hx with
 | ptr _ _ ad hg hb =>
  unfold loadV at h
  split at h
  ·rename_i cs e ro hget
   obtain ⟨b, hbg⟩ := hR.tot r.g cs e ro hget
   obtain ⟨cs', e', ro', hget', hl⟩ := hR.lies r.g b hbg
   rw [hget] at hget'
   cases hget'
   obtain ⟨_, had⟩ := hb b hbg
   subst had
   split at h
   ·rename_i hag
    split at h
    ·rename_i s hs
     split at h
     ·rename_i hle
      cases h
      obtain ⟨vs, hlen, hc, hr⟩ := cells_read hl r.i s hle
      refine ⟨.agg vs.toArray, ?_, .agg _ _ (by simpa using hr)⟩
      have hrun := run_loadCells_list (P := P) w _ vs hc
      rw [hlen] at hrun
      simp only [Instr.loadAt, Instr.sureAddr, loadVar, Sem.run_bind, Sem.run_pure, Result.andThen_ok, agg_run hag, if_true, run_size hs, hrun]
     ·cases h
    ·cases h
   ·rename_i hag
    obtain ⟨d, hd, hr⟩ := hl.cell r.i v h
    exact ⟨d, by simp [Instr.loadAt, Instr.sureAddr, loadVar, agg_run hag, run_load, hd], hr⟩
   ·cases h
  ·cases h
theorem fits_load (hR : Rel β H w) (hT : TRel H.n β m a.tmps) {t : TypeId} {x : Operand} {u : Bool} {r : Ref} {v : AV} (ho : o.op = .load t x) (hx : opnd m x = some (.ptr u (some r))) (h : loadV P H t r = some v) : Fits P o a β H w (v.hot u) H := by
 obtain ⟨c, hc, hv⟩ := loadV_sound hR (opnd_sound hT hx) h
 refine Fits.same hR (c := c) ?_ hv.hot
 simp only [execOp, ho]
 exact run_v hc
theorem imm_read (hR : Rel β H w) {N : Nat} {xs : List AV} {b o : Nat} {cs : Nat → Value} (h : ∀ k v, xs[k]? = some v → β.imm b (o + k) = some (cs k)) (h' : ∀ k v, xs[k]? = some v → VRel N β v (cs k)) (i n : Nat) (hle : i + n ≤ xs.length) :
  ∃ vs : List Value, vs.length = n ∧ (∀ j v, vs[j]? = some v → w.cell? ((⟨b, o + i, none⟩ : Addr).add j) = some v) ∧ VsRel N β ((xs.drop i).take n) vs := by
 refine ⟨(List.range n).map fun j => cs (i + j), by simp, fun j v hv => ?_, ?_⟩
 ·have hj : j < n := by
   have := (List.getElem?_eq_some_iff.1 hv).1
   simpa using this
  rw [List.getElem?_map, List.getElem?_range hj] at hv
  simp only [Option.map_some, Option.some.injEq] at hv
  subst hv
  have := hR.immw _ _ _ (h (i + j) xs[i + j] (List.getElem?_eq_getElem (by omega)))
  have e : (⟨b, o + i, none⟩ : Addr).add j = ⟨b, o + (i + j), none⟩ := by
   unfold Addr.add
   split
   ·rename_i e; simp [e]
   ·simp [Nat.add_assoc]
  rw [e]
  exact this
 ·refine VsRel.of_at (by simp; omega) fun j v c hv hc => ?_
  have hj : j < n := by
   have := (List.getElem?_eq_some_iff.1 hv).1
   simp at this; omega
  rw [List.getElem?_take_of_lt hj, List.getElem?_drop] at hv
  rw [List.getElem?_map, List.getElem?_range hj] at hc
  simp only [Option.map_some, Option.some.injEq] at hc
  subst hc
  exact h' _ _ hv
theorem loadE_sound (hR : Rel β H w) {u : TypeId} {t : Ty} {l : List t.den} {e p : Nat} {v : AV} {c : Value} (hx : VRel H.n β (.eptr t l e p) c) (h : loadE P u t l e p = some v) : ∃ d, (Instr.loadAt u c).run P w = .ok d w ∧ VRel H.n β v d := by
 cases hx with
 | eptr _ _ _ _ b o cs h1 h2 =>
  unfold loadE at h
  split at h
  ·rename_i s hag hs
   split at h
   ·rename_i hc
    cases h
    have hle : e * t.z + p + s ≤ (encL t l).length := by
     rw [encL_length]
     have : (e + 1) * t.z ≤ l.length * t.z := Nat.mul_le_mul_right _ hc.1
     rw [Nat.add_mul] at this
     omega
    obtain ⟨vs, hlen, hcv, hr⟩ := imm_read hR h1 h2 (e * t.z + p) s hle
    refine ⟨.agg vs.toArray, ?_, .agg _ _ ?_⟩
    ·have hrun := run_loadCells_list (P := P) w _ vs hcv
     rw [hlen] at hrun
     simp only [Instr.loadAt, Instr.sureAddr, loadVar, Sem.run_bind, Sem.run_pure, Result.andThen_ok, agg_run hag, if_true, run_size hs, hrun]
    ·have e1 : ((enc t (l.getD e t.dflt)).drop p).take s = ((encL t l).drop (e * t.z + p)).take s := by
      rw [← encL_elem t l e hc.1, List.drop_take, List.take_take, List.drop_drop, Nat.min_eq_left (by omega)]
     rw [e1]
     simpa using hr
   ·cases h
  ·rename_i s hag hs
   split at h
   ·rename_i hc
    have hv : (encL t l)[e * t.z + p]? = some v := by rw [encL_get t l e p hc.1 hc.2]; exact h
    refine ⟨cs (e * t.z + p), ?_, h2 _ _ hv⟩
    have := hR.immw _ _ _ (h1 _ _ hv)
    simp [Instr.loadAt, Instr.sureAddr, loadVar, agg_run hag, run_load, this]
   ·cases h
  ·cases h
theorem fits_load_e (hR : Rel β H w) (hT : TRel H.n β m a.tmps) {u : TypeId} {x : Operand} {t : Ty} {l : List t.den} {e p : Nat} {v : AV} (ho : o.op = .load u x) (hx : opnd m x = some (.eptr t l e p)) (h : loadE P u t l e p = some v) : Fits P o a β H w v H := by
 obtain ⟨c, hc, hv⟩ := loadE_sound hR (opnd_sound hT hx) h
 refine Fits.same hR (c := c) ?_ hv
 simp only [execOp, ho]
 exact run_v hc
theorem heap_setCells {w : World} (g : Nat) : ∀ (vs : List Value) (o i : Nat), i ≠ g → (w.setCells g o vs).heap[i]? = w.heap[i]?
 | vs, o, i, h => by
  induction vs generalizing w o with
  | nil => rfl
  | cons v vs ih =>
   show ((w.setCell ⟨g, o, none⟩ v).setCells g (o + 1) vs).heap[i]? = _
   rw [ih, Go.RowKit.Below.heap_setCell _ _ _ _ h]
theorem size_setCells {w : World} (g : Nat) : ∀ (vs : List Value) (o : Nat), (w.setCells g o vs).heap.size = w.heap.size
 | vs, o => by
  induction vs generalizing w o with
  | nil => rfl
  | cons v vs ih =>
   show ((w.setCell ⟨g, o, none⟩ v).setCells g (o + 1) vs).heap.size = _
   rw [ih]; simp
theorem tape_setCells {w : World} (g : Nat) : ∀ (vs : List Value) (o : Nat), (w.setCells g o vs).tape = w.tape
 | vs, o => by
  induction vs generalizing w o with
  | nil => rfl
  | cons v vs ih =>
   show ((w.setCell ⟨g, o, none⟩ v).setCells g (o + 1) vs).tape = _
   rw [ih]; rfl
theorem blk_setCells {w : World} (g : Nat) : ∀ (vs : List Value) (o : Nat) {C : Array Value} {e : TypeId} {fr : Nat × Nat}, w.heap[g]? = some (.cells C e fr) → ∃ C', (w.setCells g o vs).heap[g]? = some (.cells C' e fr) ∧ C'.size = C.size
 | vs, o, C, e, fr, h => by
  induction vs generalizing w o C with
  | nil => exact ⟨C, h, rfl⟩
  | cons v vs ih =>
   have h1 : (w.setCell ⟨g, o, none⟩ v).heap[g]? = some (.cells (C.setIfInBounds o v) e fr) := by
    simp [World.setCell, Array.getElem?_modify, h]
   obtain ⟨C', h2, h3⟩ := ih (w := w.setCell ⟨g, o, none⟩ v) (o + 1) (C.setIfInBounds o v) h1
   exact ⟨C', h2, by simpa using h3⟩
theorem Free.setCells {w : World} {b : Base} (h : Free w b) (o : Nat) (vs : List Value) : Free (w.setCells b.blk o vs) b := by
 obtain ⟨⟨C, e, fr, hC, hs⟩, hf⟩ := h
 obtain ⟨C', h1, h2⟩ := blk_setCells b.blk vs o hC
 exact ⟨⟨C', e, fr, h1, by omega, hs.2⟩, fun j hj => by rw [World.frozen?_setCells]; exact hf j hj⟩
theorem TypOk.setCells {w : World} {b : Base} {cs cs' : List AV} {e : TypeId} (h : TypOk w b cs e) (hl : cs'.length = cs.length) (o : Nat) (vs : List Value) : TypOk (w.setCells b.blk o vs) b cs' e := fun hn => by
 obtain ⟨C, fr, hC, hk⟩ := h hn
 obtain ⟨C', h1, h2⟩ := blk_setCells b.blk vs o hC
 exact ⟨C', fr, h1, fun hk' => ⟨(hk hk').1, by rw [hl]; exact h2.trans (hk hk').2⟩⟩
theorem Free.there {w : World} {b : Base} (h : Free w b) {j : Nat} (hj : j < b.room) : (w.cell? ⟨b.blk, b.off + j, none⟩).isSome = true := by
 obtain ⟨⟨C, e, fr, hC, hs, _⟩, _⟩ := h
 simp [World.cell?, hC, Array.getElem?_eq_getElem (show b.off + j < C.size by omega)]
theorem one_of_plain {N : Nat} {vs : List AV} {cs : List Value} (h : VsRel N β vs cs) (hp : vs.all AV.cell = true) : ∀ u ∈ cs, u.oneCell' = true := by
 induction vs generalizing cs with
 | nil => cases h; intro u hu; cases hu
 | cons v vs ih => cases h with
  | cons _ c _ cs hv hvs =>
   simp only [List.all_cons, Bool.and_eq_true] at hp
   intro u hu
   rcases List.mem_cons.1 hu with rfl | hu
   ·obtain ⟨h1, h2⟩ := hv.one hp.1
    cases u <;> simp [Value.oneCell'] at * <;> simp_all
   ·exact ih hvs hp.2 u hu
theorem Lies.write {N : Nat} {cs vs : List AV} {b : Base} (hl : Lies N β w cs false b) (hbn : b.nil = false) {i : Nat} {ds : List Value} (hv : VsRel N β vs ds) (hp : vs.all AV.cell = true) (hi : i + vs.length ≤ cs.length) :
  Lies N β (w.setCells b.blk (b.off + i) ds) (splice cs i vs) false b := by
 have hlen := hv.length
 have hroom := hl.room
 have hfree := hl.free rfl hbn
 constructor
 ·intro j v hj
  unfold splice at hj
  by_cases h1 : j < i
  ·rw [List.append_assoc, List.getElem?_append_left (by simp; omega), List.getElem?_take_of_lt h1] at hj
   obtain ⟨c, hc, hr⟩ := hl.cell j v hj
   exact ⟨c, by rw [World.cell?_setCells_out _ _ _ _ _ (fun _ _ => .inl (by simp; omega))]; exact hc, hr⟩
  ·by_cases h2 : j < i + vs.length
   ·rw [List.append_assoc, List.getElem?_append_right (by simp; omega), List.getElem?_append_left (by simp; omega)] at hj
    have e : j - (cs.take i).length = j - i := by simp; omega
    rw [e] at hj
    obtain ⟨c, hc, hr⟩ := hv.at (j - i) v hj
    refine ⟨c, ?_, hr⟩
    have hlt : j - i < ds.length := by omega
    have := World.cell?_setCells_in b.blk ds (b.off + i) w (fun k hk => by
     have := hfree.there (j := i + k) (by omega)
     rwa [show b.off + (i + k) = b.off + i + k from by omega] at this) (j - i) hlt
    rw [show b.off + j = b.off + i + (j - i) from by omega, this]
    rw [List.getElem?_eq_getElem hlt] at hc
    exact hc
   ·have e1 : (cs.take i ++ vs).length = i + vs.length := by simp; omega
    rw [List.getElem?_append_right (by omega), e1, List.getElem?_drop] at hj
    rw [show i + vs.length + (j - (i + vs.length)) = j from by omega] at hj
    obtain ⟨c, hc, hr⟩ := hl.cell j v hj
    exact ⟨c, by rw [World.cell?_setCells_out _ _ _ _ _ (fun _ _ => .inr (by simp; omega))]; exact hc, hr⟩
 ·intro j v hj
  have hm : v ∈ splice cs i vs := List.mem_of_getElem? hj
  unfold splice at hm
  simp only [List.mem_append] at hm
  rcases hm with (hm | hm) | hm
  ·obtain ⟨k, hk⟩ := List.mem_iff_getElem?.1 (List.mem_of_mem_take hm); exact hl.plain k v hk
  ·exact List.all_eq_true.1 hp v hm
  ·obtain ⟨k, hk⟩ := List.mem_iff_getElem?.1 (List.mem_of_mem_drop hm); exact hl.plain k v hk
 ·unfold splice; simp; omega
 ·intro hn; rw [hbn] at hn; cases hn
 ·intro _ hn; rw [hbn] at hn; cases hn
 ·intro hn; rw [size_setCells]; exact hl.blk hn
 ·exact fun _ _ => hfree.setCells _ _
def Like (vs vs' : List AV) : Prop := vs'.length = vs.length ∧ (vs.all AV.cell = true → vs'.all AV.cell = true) ∧ ∀ N (β : At) ds, VsRel N β vs ds → VsRel N β vs' ds
theorem Like.refl (vs : List AV) : Like vs vs := ⟨rfl, id, fun _ _ _ h => h⟩
theorem Like.nil : Like [] [] := Like.refl _
theorem Like.cons {v v' : AV} {vs vs' : List AV} (hc : v.cell = true → v'.cell = true) (hv : ∀ N (β : At) d, VRel N β v d → VRel N β v' d) (h : Like vs vs') : Like (v :: vs) (v' :: vs') :=
 ⟨by simp [h.1], fun ha => by
  simp only [List.all_cons, Bool.and_eq_true] at ha ⊢
  exact ⟨hc ha.1, h.2.1 ha.2⟩, fun N β ds hd => by
  cases hd with
  | cons _ d _ ds h1 h2 => exact .cons _ _ _ _ (hv N β d h1) (h.2.2 N β ds h2)⟩
theorem VsRel.part {N : Nat} {β : At} {a b : List AV} {ds : List Value} (h : VsRel N β (a ++ b) ds) : ∃ d1 d2, ds = d1 ++ d2 ∧ VsRel N β a d1 ∧ VsRel N β b d2 := by
 induction a generalizing ds with
 | nil => exact ⟨[], ds, rfl, .nil, h⟩
 | cons v vs ih =>
  cases h with
  | cons _ d _ ds h1 h2 =>
   obtain ⟨d1, d2, rfl, h3, h4⟩ := ih h2
   exact ⟨d :: d1, d2, rfl, .cons _ _ _ _ h1 h3, h4⟩
theorem Like.append {a a' b b' : List AV} (h : Like a a') (k : Like b b') : Like (a ++ b) (a' ++ b') :=
 ⟨by simp [h.1, k.1], fun ha => by
  simp only [List.all_append, Bool.and_eq_true] at ha ⊢
  exact ⟨h.2.1 ha.1, k.2.1 ha.2⟩, fun N β ds hd => by
  obtain ⟨d1, d2, rfl, h3, h4⟩ := hd.part
  exact (h.2.2 N β d1 h3).append (k.2.2 N β d2 h4)⟩
theorem Lies.like {N : Nat} {cs cs' : List AV} {ro : Bool} {b : Base} (hl : Lies N β w cs ro b) (h : Like cs cs') : Lies N β w cs' ro b where
 cell := fun j v hj => by
  obtain ⟨vs, hlen, hc, hr⟩ := cells_read hl 0 cs.length (by omega)
  rw [List.drop_zero, List.take_length] at hr
  obtain ⟨c, hc', hrc⟩ := (h.2.2 _ _ _ hr).at j v hj
  have := hc j c hc'
  rw [place_add, Nat.zero_add] at this
  exact ⟨c, this, hrc⟩
 plain := fun j v hj => by
  have : cs.all AV.cell = true := List.all_eq_true.2 fun y hy => by
   obtain ⟨k, hk⟩ := List.mem_iff_getElem?.1 hy
   exact hl.plain k y hk
  exact List.all_eq_true.1 (h.2.1 this) v (List.mem_of_getElem? hj)
 room := by rw [h.1]; exact hl.room
 nl := fun hn => by
  have := h.1
  rw [hl.nl hn] at this
  exact List.length_eq_zero_iff.1 this
 nr := hl.nr
 blk := hl.blk
 free := hl.free
theorem dec_like : (t : Ty) → {l : List AV} → {x : t.den} → {rest : List AV} → dec t l = some (x, rest) → ∃ cs, l = cs ++ rest ∧ Like cs (enc t x)
 | .bool, l, x, rest, h => by
  simp only [dec] at h
  unfold decBool at h
  split at h
  ·cases h
   exact ⟨[_], rfl, Like.cons (fun _ => rfl) (fun N β d hd => by rw [bool_of hd]; exact .bool _ _) Like.nil⟩
  ·cases h
 | .int k, l, x, rest, h => by
  simp only [dec] at h
  unfold decInt at h
  split at h
  ·split at h
   ·rename_i hk
    subst hk
    cases h
    exact ⟨[_], rfl, Like.cons (fun _ => rfl) (fun N β d hd => by rw [int_of hd]; exact .int _ _ _) Like.nil⟩
   ·cases h
  ·cases h
 | .byte, l, x, rest, h => by
  simp only [dec] at h
  unfold decByte at h
  split at h
  ·rename_i n l
   split at h
   ·rename_i hc
    obtain ⟨rfl, h0, h1⟩ := hc
    cases h
    refine ⟨[_], rfl, Like.cons (fun _ => rfl) (fun N β d hd => ?_) Like.nil⟩
    rw [int_of hd]
    have : (((UInt8.ofNat n.toNat).toNat : Nat) : Int) = n := by simp; omega
    rw [this]
    exact .int _ _ _
   ·cases h
  ·cases h
 | .str, l, x, rest, h => by
  simp only [dec] at h
  unfold decStr at h
  split at h
  ·cases h
   exact ⟨[_], rfl, Like.cons (fun _ => rfl) (fun N β d hd => by obtain ⟨b, rfl, hb⟩ := str_of hd; exact .str _ _ _ hb) Like.nil⟩
  ·cases h
 | .sl t, l, x, rest, h => by
  simp only [dec] at h
  unfold decSl at h
  split at h
  ·rename_i t' y l'
   split at h
   ·rename_i ht
    subst ht
    cases h
    exact ⟨[_], rfl, Like.refl _⟩
   ·cases h
  ·split at h
   ·rename_i u n z l'
    cases h
    refine ⟨[_], rfl, Like.cons (fun _ => rfl) (fun N β d hd => ?_) Like.nil⟩
    cases hd
    exact .vec t [] 0 _ 0 0 (fun _ => undef) (by simp) ⟨fun hc => by simp at hc, fun _ => rfl⟩ (fun k v hv => by simp [encL] at hv) (fun k v hv => by simp [encL] at hv)
   ·cases h
  ·cases h
 | .unit, l, x, rest, h => by
  simp only [dec, Option.some.injEq, Prod.mk.injEq] at h
  obtain ⟨_, rfl⟩ := h
  exact ⟨[], rfl, Like.nil⟩
 | .pair a b, l, x, rest, h => by
  simp only [dec] at h
  split at h
  ·rename_i xa l' ha
   split at h
   ·rename_i xb l'' hb
    simp only [Option.some.injEq, Prod.mk.injEq] at h
    obtain ⟨rfl, rfl⟩ := h
    obtain ⟨c1, rfl, k1⟩ := dec_like a ha
    obtain ⟨c2, rfl, k2⟩ := dec_like b hb
    exact ⟨c1 ++ c2, by rw [List.append_assoc], k1.append k2⟩
   ·cases h
  ·cases h
theorem dec1_like {t : Ty} {l : List AV} {x : t.den} (h : dec1 t l = some x) : Like l (enc t x) := by
 unfold dec1 at h
 split at h
 ·rename_i y hy
  cases h
  obtain ⟨cs, rfl, k⟩ := dec_like t hy
  rwa [List.append_nil]
 ·cases h
theorem decN_like {t : Ty} : {n : Nat} → {l : List AV} → {xs : List t.den} → decN t n l = some xs → Like l (encL t xs)
 | 0, [], xs, h => by simp only [decN, Option.some.injEq] at h; subst h; exact Like.nil
 | 0, _ :: _, xs, h => by simp only [decN] at h; cases h
 | n + 1, l, xs, h => by
  simp only [decN] at h
  split at h
  ·rename_i x l' hx
   obtain ⟨ys, hy, rfl⟩ : ∃ ys, decN t n l' = some ys ∧ x :: ys = xs := by
    cases hd : decN t n l' with
    | none => rw [hd] at h; cases h
    | some ys => rw [hd] at h; cases h; exact ⟨ys, rfl, rfl⟩
   obtain ⟨cs, rfl, k⟩ := dec_like t hx
   have : encL t (x :: ys) = enc t x ++ encL t ys := by simp [encL]
   rw [this]
   exact k.append (decN_like hy)
  ·cases h
theorem decL_like {t : Ty} {l : List AV} {xs : List t.den} (h : decL t l = some xs) : Like l (encL t xs) ∧ t.z ≠ 0 := by
 unfold decL at h
 split at h
 ·cases h
 ·rename_i hz; exact ⟨decN_like h, hz⟩
theorem splice_mid (A B C vs : List AV) (o : Nat) (h : o + vs.length ≤ B.length) : splice (A ++ B ++ C) (A.length + o) vs = A ++ splice B o vs ++ C := by
 unfold splice
 have e1 : (A ++ B ++ C).take (A.length + o) = A ++ B.take o := by
  rw [List.append_assoc, List.take_append, List.take_of_length_le (by omega), Nat.add_sub_cancel_left, List.take_append_of_le_length (by omega)]
 have e2 : (A ++ B ++ C).drop (A.length + o + vs.length) = B.drop (o + vs.length) ++ C := by
  rw [List.append_assoc, List.drop_append, List.drop_eq_nil_of_le (by omega), List.nil_append, show A.length + o + vs.length - A.length = o + vs.length from by omega, List.drop_append_of_le_length (by omega)]
 rw [e1, e2]
 simp
theorem put_row {o : AObj} {cs : List AV} {e : TypeId} (ho : o.row = some (cs, e, false)) (r : Ref) (vs : List AV) (hle : r.i + vs.length ≤ cs.length) :
  ∃ L, (o.put cs e r vs).row = some (L, e, false) ∧ Like (splice cs r.i vs) L := by
 unfold AObj.put
 split
 ·rename_i t l e' ro
  simp only [AObj.row, Option.some.injEq, Prod.mk.injEq] at ho
  obtain ⟨rfl, rfl, rfl⟩ := ho
  split
  ·rename_i hc
   obtain ⟨hz, he, hov⟩ := hc
   split
   ·rename_i x hx
    refine ⟨_, rfl, ?_⟩
    have hl := dec1_like hx
    have e0 : l.set r.e x = l.take r.e ++ [x] ++ l.drop (r.e + 1) := by rw [List.set_eq_take_append_cons_drop, if_pos he]; simp
    have e1 : l = l.take r.e ++ [l.getD r.e t.dflt] ++ l.drop (r.e + 1) := by
     rw [List.getD_eq_getElem?_getD, List.getElem?_eq_getElem he]
     simp
    have e2 : encL t l = encL t (l.take r.e) ++ enc t (l.getD r.e t.dflt) ++ encL t (l.drop (r.e + 1)) := by
     conv => lhs; rw [e1]
     simp [encL]
    have e3 : encL t (l.set r.e x) = encL t (l.take r.e) ++ enc t x ++ encL t (l.drop (r.e + 1)) := by rw [e0]; simp [encL]
    have e4 : (encL t (l.take r.e)).length = r.e * t.z := by rw [encL_length, List.length_take, Nat.min_eq_left (by omega)]
    have e5 : r.i = (encL t (l.take r.e)).length + r.o := by rw [e4]; unfold Ref.i; rw [hz]
    rw [e2, e3, e5, splice_mid _ _ _ _ _ (by rw [enc_length]; exact hov)]
    exact ((Like.refl _).append hl).append (Like.refl _)
   ·exact ⟨_, rfl, Like.refl _⟩
  ·exact ⟨_, rfl, Like.refl _⟩
 ·exact ⟨_, rfl, Like.refl _⟩
theorem fits_store (hR : Rel β H w) (hT : TRel H.n β m a.tmps) {t : TypeId} {x y : Operand} {u : Bool} {r : Ref} {v : AV} {H' : Heap} (ho : o.op = .store t x y) (hx : opnd m x = some (.ptr u (some r))) (hy : opnd m y = some v) (h : storeV P H t r v = some H') :
  Fits P o a β H w (.tup []) H' := by
 have hp := opnd_sound hT hx
 have hv := opnd_sound hT hy
 obtain ⟨ob, cs, e, s, hgo, hrow, hs, hlen, hle, hall, rfl⟩ : ∃ ob cs e s, H.get r.g = some ob ∧ ob.row = some (cs, e, false) ∧ size? P t = some s ∧ v.cells.length = s ∧ r.i + s ≤ cs.length ∧ v.cells.all AV.cell = true ∧ H' = H.set r.g (ob.put cs e r v.cells) := by
  unfold storeV at h
  split at h
  ·rename_i ob hgo
   split at h
   ·rename_i cs e hrow
    split at h
    ·rename_i s hs
     split at h
     ·rename_i hc
      cases h
      exact ⟨_, _, _, _, hgo, hrow, hs, hc.1, hc.2.1, hc.2.2, rfl⟩
     ·cases h
    ·cases h
   ·cases h
  ·cases h
 have hget : H.row r.g = some (cs, e, false) := by unfold Heap.row; rw [hgo]; exact hrow
 obtain ⟨L, hput, hlike⟩ := put_row hrow r v.cells (by omega)
 cases hq : a.eval x <;> rw [hq] at hp <;> cases hp
 rename_i ad hg hb
 obtain ⟨b, hbg⟩ := hR.tot r.g cs e false hget
 obtain ⟨cs', e', ro', hget', hl⟩ := hR.lies r.g b hbg
 rw [hget] at hget'
 cases hget'
 obtain ⟨hbn, had⟩ := hb b hbg
 subst had
 have hvc := hv.cells
 have hl1 := hvc.length
 simp only [Array.length_toList] at hl1
 have hone := one_of_plain hvc hall
 have hfree := hl.free rfl hbn
 have hroom := hl.room
 have hrun := run_storeCells_cells (P := P) b.blk (b.off + r.i) (a.eval y).cells.toList 0 w
  (fun j hj => by
   have := hfree.there (j := r.i + j) (by simp at hj; omega)
   rwa [show b.off + (r.i + j) = b.off + r.i + 0 + j from by omega] at this)
  (fun j hj => by
   have := hfree.2 (r.i + j) (by simp at hj; omega)
   rwa [show b.off + (r.i + j) = b.off + r.i + 0 + j from by omega] at this) hone
 refine ⟨β, w.setCells b.blk (b.off + r.i) (a.eval y).cells.toList, hR.write hbg hget hbn (fun k hk => heap_setCells _ _ _ _ hk) hput ((hl.write hbn hvc hall (by omega)).like hlike) ((hR.typ _ _ _ _ hbg hget).setCells (by rw [hlike.1]; unfold splice; simp only [List.length_append, List.length_take, List.length_drop]; omega) _ _),
  Le.write _ hbg hget hbn (World.os_setCells ..) (tape_setCells ..) (World.output_setCells ..) (size_setCells ..) (fun k hk => heap_setCells _ _ _ _ hk), .inr ⟨?_, rfl⟩⟩
 have hsz : ¬ ((a.eval y).cells.size ≠ s) := by omega
 simp only [execOp, ho, Instr.storeAt, hq, Instr.sureAddr, storeVar, Sem.run_bind, Sem.run_pure, Result.andThen_ok, run_size hs, hsz, if_false, hrun, Nat.add_zero]
end mem
end Go.Vx
end
section
set_option linter.unusedVariables false
set_option linter.unusedSimpArgs false
namespace Go.Vx
structure Melts (β : At) (H : Heap) (w : World) (β' : At) (H' : Heap) : Prop where
 base : β'.base = β.base
 keeps : Keeps H.n β β'
 rel : Rel β' H' w
 le : Le β H w β' H' w
 n : H'.n = H.n
theorem Melts.refl {β : At} {H : Heap} {w : World} (h : Rel β H w) : Melts β H w β H := ⟨rfl, Keeps.refl _ _, h, Le.refl _ _ _, rfl⟩
theorem Melts.trans {β β1 β2 : At} {H H1 H2 : Heap} {w : World} (h : Melts β H w β1 H1) (k : Melts β1 H1 w β2 H2) : Melts β H w β2 H2 :=
 ⟨k.base.trans h.base, h.keeps.trans (by rw [← h.n]; exact k.keeps) (Nat.le_refl _), k.rel, h.le.trans k.le, k.n.trans h.n⟩
theorem Rel.freeze {β : At} {H : Heap} {w : World} (h : Rel β H w) {g : Nat} {cs : List AV} {e0 : TypeId} (hrow : H.row g = some (cs, e0, false)) (t : Ty) (l : List t.den) (e : TypeId)
  (hlen : (encL t l).length = cs.length) (hcs : ∀ b, β g = some b → ∀ (j : Nat) (v : AV), (encL t l)[j]? = some v → ∃ c, w.cell? ⟨b.blk, b.off + j, none⟩ = some c ∧ VRel H.n β v c) :
  ∃ β', Melts β H w β' (H.set g (.fro t l e)) := by
 obtain ⟨b, hb⟩ := h.tot _ _ _ _ hrow
 obtain ⟨cs1, e1, ro1, hr1, hlies⟩ := h.lies g b hb
 rw [hrow] at hr1
 cases hr1
 let imm' : Nat → Nat → Option Value := fun k o => match β.imm k o with
  | some c => some c
  | none => if b.nil = false ∧ k = b.blk ∧ b.off ≤ o ∧ o < b.off + (encL t l).length then w.cell? ⟨k, o, none⟩ else none
 have hold : ∀ k o c, β.imm k o = some c → imm' k o = some c := fun k o c hc => by simp only [imm', hc]
 have hnew : ∀ k o c, imm' k o = some c → β.imm k o = some c ∨ (b.nil = false ∧ k = b.blk ∧ b.off ≤ o ∧ o < b.off + (encL t l).length ∧ w.cell? ⟨k, o, none⟩ = some c) := fun k o c hc => by
  simp only [imm'] at hc
  split at hc
  ·rename_i c' hc'; cases hc; exact .inl hc'
  ·split at hc
   ·rename_i hk; exact .inr ⟨hk.1, hk.2.1, hk.2.2.1, hk.2.2.2, hc⟩
   ·cases hc
 have hk : Keeps H.n β ⟨β.base, imm'⟩ := ⟨fun _ _ => .inl rfl, hold⟩
 have hrowne : ∀ k, k ≠ g → (H.set g (.fro t l e)).row k = H.row k := fun k hne => by rw [Heap.row_set, if_neg hne]
 have hrowg : (H.set g (.fro t l e)).row g = some (encL t l, e, true) := by rw [Heap.row_set, if_pos rfl]; rfl
 have hmutold : ∀ k, Mut ⟨β.base, imm'⟩ (H.set g (.fro t l e)) k → Mut β H k := by
  rintro k ⟨i, b1, c1, e1, hb1, hi, hn, rfl⟩
  by_cases hne : i = g
  ·subst hne; rw [hrowg] at hi; cases hi
  ·rw [hrowne i hne] at hi; exact ⟨i, b1, c1, e1, hb1, hi, hn, rfl⟩
 refine ⟨⟨β.base, imm'⟩, rfl, hk, ?_, ?_, by simp⟩
 ·exact {
   lies := fun k b1 hb1 => by
    by_cases hne : k = g
    ·subst hne
     have hbb : b1 = b := by
      have : β.base k = some b1 := hb1
      rw [hb] at this; cases this; rfl
     subst hbb
     refine ⟨_, _, _, hrowg, ?_⟩
     exact {
      cell := fun j v hv => by
       obtain ⟨c, hc, hr⟩ := hcs b1 hb j v hv
       exact ⟨c, hc, hr.mono (Nat.le_refl _) hk⟩
      plain := fun j v hv => List.all_eq_true.1 (encL_all t l) v (List.mem_of_getElem? hv)
      room := by rw [hlen]; exact hlies.room
      nl := fun hn => by
       have := hlies.nl hn
       rw [this] at hlen
       exact List.length_eq_zero_iff.1 hlen
      nr := fun h => by cases h
      blk := hlies.blk
      free := fun h => by cases h }
    ·obtain ⟨c1, e1, ro1, h1, h2⟩ := h.lies k b1 hb1
     exact ⟨c1, e1, ro1, by rw [hrowne k hne]; exact h1, h2.later (Nat.le_refl _) hk fun _ => rfl⟩
   tot := fun k c1 e1 ro1 hk1 => by
    by_cases hne : k = g
    ·subst hne; exact ⟨b, hb⟩
    ·rw [hrowne k hne] at hk1; exact h.tot k c1 e1 ro1 hk1
   fresh := fun k o hk1 => by
    rw [Heap.get_set] at hk1
    split at hk1
    ·rename_i e; subst e; exact h.row_lt hrow
    ·exact h.fresh k o hk1
   apart := fun k k' b1 b2 c1 e1 hne hb1 hb2 hk1 => by
    by_cases hkg : k = g
    ·subst hkg; rw [hrowg] at hk1; cases hk1
    ·rw [hrowne k hkg] at hk1; exact h.apart k k' b1 b2 c1 e1 hne hb1 hb2 hk1
   immw := fun k o c hc => by
    rcases hnew k o c hc with h1 | ⟨_, _, _, _, h1⟩
    ·exact h.immw k o c h1
    ·exact h1
   immm := fun k o c hc hm => by
    rcases hnew k o c hc with h1 | ⟨hn, hkb, _, _, _⟩
    ·exact h.immm k o c h1 (hmutold k hm)
    ·obtain ⟨i, b1, c1, e1, hb1, hi, hn1, hk1⟩ := hm
     by_cases hne : i = g
     ·subst hne; rw [hrowg] at hi; cases hi
     ·rw [hrowne i hne] at hi
      exact h.apart i g b1 b c1 e1 hne hb1 hb hi hn1 hn (by rw [hk1, hkb])
   glob := h.glob.mono hold
   tab := h.tab.keep hold fun _ _ _ => rfl
   typ := fun k b1 c1 e1 hb1 hk1 => by
    by_cases hkg : k = g
    ·subst hkg; rw [hrowg] at hk1; cases hk1
    ·rw [hrowne k hkg] at hk1; exact h.typ k b1 c1 e1 hb1 hk1
   fro := fun k t1 l1 e1 b1 hk1 hb1 hn j v hv => by
    rw [Heap.get_set] at hk1
    split at hk1
    ·rename_i hkg
     subst hkg
     cases hk1
     have hbb : b1 = b := by
      have : β.base k = some b1 := hb1
      rw [hb] at this; cases this; rfl
     subst hbb
     obtain ⟨c, hc, hr⟩ := hcs b1 hb j v hv
     refine ⟨c, ?_, hr.mono (Nat.le_refl _) hk⟩
     show imm' b1.blk (b1.off + j) = some c
     simp only [imm']
     have hj : j < (encL t l).length := (List.getElem?_eq_some_iff.1 hv).1
     split
     ·rename_i c' hc'
      have := h.immw _ _ _ hc'
      rw [hc] at this
      cases this; rfl
     ·rw [if_pos (by refine ⟨hn, ?_, ?_, ?_⟩ <;> first | rfl | trivial | omega)]; exact hc
    ·obtain ⟨c, hc, hr⟩ := h.fro k t1 l1 e1 b1 hk1 hb1 hn j v hv
     exact ⟨c, hold _ _ _ hc, hr.mono (Nat.le_refl _) hk⟩ }
 ·exact {
   os := rfl
   tape := rfl
   output := rfl
   size := Nat.le_refl _
   n := by simp
   keeps := hk
   ro := fun k c1 e1 hk1 => by
    have hne : k ≠ g := by rintro rfl; rw [hrow] at hk1; cases hk1
    exact .inl ⟨rfl, c1, e1, by rw [hrowne k hne]; exact hk1⟩
   imm := fun k o c hc => by
    rcases hnew k o c hc with h1 | ⟨hn, hkb, _, _, _⟩
    ·exact .inl h1
    ·exact .inr (.inl ⟨g, b, cs, e0, hb, hrow, hn, hkb.symm⟩)
   blocks := fun _ _ _ => rfl
   turn := fun k hk1 => .inl (hmutold k hk1) }
theorem Rel.alike {β : At} {H : Heap} {w : World} (h : Rel β H w) {g : Nat} {cs cs' : List AV} {e0 e : TypeId} (hrow : H.row g = some (cs, e0, false)) {o : AObj} (ho : o.row = some (cs', e, false)) (hee : e = e0)
  (hlen : cs'.length = cs.length) (hall : cs'.all AV.cell = true) (hcs : ∀ b, β g = some b → ∀ (j : Nat) (v : AV), cs'[j]? = some v → ∃ c, w.cell? ⟨b.blk, b.off + j, none⟩ = some c ∧ VRel H.n β v c) :
  Melts β H w β (H.set g o) := by
 have hrowne : ∀ k, k ≠ g → (H.set g o).row k = H.row k := fun k hne => by rw [Heap.row_set, if_neg hne]
 have hrowg : (H.set g o).row g = some (cs', e, false) := by rw [Heap.row_set, if_pos rfl]; exact ho
 have hmut : ∀ k, Mut β (H.set g o) k → Mut β H k := by
  rintro k ⟨i, b1, c1, e1, hb1, hi, hn, rfl⟩
  by_cases hne : i = g
  ·subst hne; exact ⟨i, b1, _, _, hb1, hrow, hn, rfl⟩
  ·rw [hrowne i hne] at hi; exact ⟨i, b1, c1, e1, hb1, hi, hn, rfl⟩
 refine ⟨rfl, Keeps.refl _ _, ?_, ?_, by simp⟩
 ·exact {
   lies := fun k b1 hb1 => by
    by_cases hne : k = g
    ·subst hne
     obtain ⟨c1, e1, ro1, h1, h2⟩ := h.lies k b1 hb1
     rw [hrow] at h1
     cases h1
     refine ⟨_, _, _, hrowg, ?_⟩
     exact {
      cell := fun j v hv => hcs b1 hb1 j v hv
      plain := fun j v hv => List.all_eq_true.1 hall v (List.mem_of_getElem? hv)
      room := by rw [hlen]; exact h2.room
      nl := fun hn => by
       have := h2.nl hn
       rw [this] at hlen
       exact List.length_eq_zero_iff.1 hlen
      nr := h2.nr
      blk := h2.blk
      free := h2.free }
    ·obtain ⟨c1, e1, ro1, h1, h2⟩ := h.lies k b1 hb1
     exact ⟨c1, e1, ro1, by rw [hrowne k hne]; exact h1, by simpa using h2⟩
   tot := fun k c1 e1 ro1 hk1 => by
    by_cases hne : k = g
    ·subst hne; exact h.tot _ _ _ _ hrow
    ·rw [hrowne k hne] at hk1; exact h.tot k c1 e1 ro1 hk1
   fresh := fun k o hk1 => by
    rw [Heap.get_set] at hk1
    split at hk1
    ·rename_i e; subst e; exact h.row_lt hrow
    ·exact h.fresh k o hk1
   apart := fun k k' b1 b2 c1 e1 hne hb1 hb2 hk1 => by
    by_cases hkg : k = g
    ·subst hkg; exact h.apart k k' b1 b2 _ _ hne hb1 hb2 hrow
    ·rw [hrowne k hkg] at hk1; exact h.apart k k' b1 b2 c1 e1 hne hb1 hb2 hk1
   immw := h.immw
   immm := fun k o c hc hm => h.immm k o c hc (hmut k hm)
   glob := h.glob
   tab := h.tab
   typ := fun k b1 c1 e1 hb1 hk1 => by
    by_cases hkg : k = g
    ·subst hkg
     rw [hrowg] at hk1
     cases hk1
     subst hee
     exact (h.typ _ _ _ _ hb1 hrow).len hlen
    ·rw [hrowne k hkg] at hk1; exact h.typ k b1 c1 e1 hb1 hk1
   fro := fun k t1 l1 e1 b1 hk1 hb1 hn j v hv => by
    rw [Heap.get_set] at hk1
    split at hk1
    ·cases hk1; simp [AObj.row] at ho
    ·exact h.fro k t1 l1 e1 b1 hk1 hb1 hn j v hv }
 ·exact {
   os := rfl
   tape := rfl
   output := rfl
   size := Nat.le_refl _
   n := by simp
   keeps := Keeps.refl _ _
   ro := fun k c1 e1 hk1 => by
    have hne : k ≠ g := by rintro rfl; rw [hrow] at hk1; cases hk1
    exact .inl ⟨rfl, c1, e1, by rw [hrowne k hne]; exact hk1⟩
   imm := fun _ _ _ h => .inl h
   blocks := fun _ _ _ => rfl
   turn := fun k hk1 => .inl (hmut k hk1) }
theorem heap_ice (w : World) (k o n j : Nat) : (w.freeze ⟨k, o, none⟩ n).heap[j]? = w.heap[j]? ∨ (j = k ∧ ∃ C e fr fr', w.heap[j]? = some (.cells C e fr) ∧ (w.freeze ⟨k, o, none⟩ n).heap[j]? = some (.cells C e fr')) := by
 unfold World.freeze
 split
 ·exact .inl rfl
 ·simp only [Array.getElem?_modify]
  by_cases e : k = j
  ·subst e
   rw [if_pos rfl]
   cases h : w.heap[k]? with
   | none => exact .inl rfl
   | some ob =>
    cases ob with
    | cells C e fr => exact .inr ⟨rfl, C, e, fr, _, rfl, rfl⟩
    | _ => exact .inl rfl
  ·rw [if_neg e]; exact .inl rfl
theorem ice_ne (w : World) {k o n j : Nat} (h : j ≠ k) : (w.freeze ⟨k, o, none⟩ n).heap[j]? = w.heap[j]? := by
 rcases heap_ice w k o n j with h1 | ⟨h1, _⟩
 ·exact h1
 ·exact absurd h1 h
theorem cell_ice (w : World) (k o n j i : Nat) : (w.freeze ⟨k, o, none⟩ n).cell? ⟨j, i, none⟩ = w.cell? ⟨j, i, none⟩ := by
 unfold World.cell?
 rcases heap_ice w k o n j with h1 | ⟨_, C, e, fr, fr', h1, h2⟩
 ·simp only [h1]
 ·simp only [h1, h2]
theorem size_ice (w : World) (k o n : Nat) : (w.freeze ⟨k, o, none⟩ n).heap.size = w.heap.size := by
 unfold World.freeze
 split
 ·rfl
 ·simp
theorem Rel.ice {β : At} {H : Heap} {w : World} (h : Rel β H w) {k : Nat} (hk : ¬ Mut β H k) (o n : Nat) : Rel β H (w.freeze ⟨k, o, none⟩ n) where
 lies := fun g b hb => by
  obtain ⟨cs, e, ro, h1, h2⟩ := h.lies g b hb
  refine ⟨cs, e, ro, h1, ?_⟩
  exact {
   cell := fun j v hv => by rw [cell_ice]; exact h2.cell j v hv
   plain := h2.plain
   room := h2.room
   nl := h2.nl
   nr := h2.nr
   blk := fun hn => by rw [size_ice]; exact h2.blk hn
   free := fun hr hn => (h2.free hr hn).of_same (ice_ne w fun e' => hk ⟨g, b, cs, e, hb, by rw [h1, hr], hn, e'⟩) }
 tot := h.tot
 fresh := h.fresh
 apart := h.apart
 immw := fun b o1 c hc => by rw [cell_ice]; exact h.immw b o1 c hc
 immm := h.immm
 glob := h.glob
 tab := fun g kd l hm => by
  obtain ⟨h1, t, m, h2⟩ := h.tab g kd l hm
  refine ⟨h1, ?_⟩
  rcases heap_ice w k o n g with h3 | ⟨_, C, e, fr, fr', h3, h4⟩
  ·exact ⟨t, m, h3.trans h2⟩
  ·rw [h2] at h3
   cases h3
   exact ⟨_, _, h4⟩
 typ := fun g b cs e hb hr hn => (h.typ g b cs e hb hr).same (fun _ => ice_ne w fun e' => hk ⟨g, b, cs, e, hb, hr, hn, e'⟩) hn
 fro := h.fro
theorem Le.ice {β β' : At} {H H' : Heap} {w : World} (h : Le β H w β' H' w) {k : Nat} (hk : Mut β H k) (o n : Nat) : Le β H w β' H' (w.freeze ⟨k, o, none⟩ n) where
 os := by unfold World.freeze; split <;> rfl
 tape := by unfold World.freeze; split <;> rfl
 output := by unfold World.freeze; split <;> rfl
 size := by rw [size_ice]; exact Nat.le_refl _
 n := h.n
 keeps := h.keeps
 ro := h.ro
 imm := h.imm
 blocks := fun j hj hm => ice_ne w fun e => hm (e ▸ hk)
 turn := h.turn
section melt
theorem map_got {α γ : Type} {x : Option α} {f : α → γ} {b : γ} (h : x.map f = some b) : ∃ a, x = some a ∧ f a = b := by
 cases x with
 | none => cases h
 | some a => exact ⟨a, rfl, by simpa using h⟩
variable {β : At} {H : Heap} {w : World}
theorem encL_part (t : Ty) (l : List t.den) (e n k : Nat) (v : AV) (h : (encL t ((l.drop e).take n))[k]? = some v) : (encL t l)[e * t.z + k]? = some v := by
 rw [encL_take, encL_drop] at h
 have h1 : k < n * t.z := by
  have := (List.getElem?_eq_some_iff.1 h).1
  simp only [List.length_take] at this
  omega
 rw [List.getElem?_take_of_lt h1, List.getElem?_drop] at h
 exact h
theorem thaw_sound (hR : Rel β H w) {t t' : Ty} {l : List t'.den} {e : TypeId} {r : Ref} {n z : Nat} {b : Bool} {v : AV} {c : Value} (hg : H.get r.g = some (.fro t' l e)) (h : thawAt t t' l r n z = some v) (hv : VRel H.n β (.slice b (some r) n z) c) : VRel H.n β v c := by
 unfold thawAt at h
 split at h
 ·rename_i hc
  obtain ⟨_, h1, h2, h3, h4⟩ := hc
  cases h
  have hrow : H.row r.g = some (encL t' l, e, true) := by unfold Heap.row; rw [hg]; rfl
  obtain ⟨bs, hb⟩ := hR.tot _ _ _ _ hrow
  cases hv with
  | slice _ _ _ _ cap a hlt hn hs hat =>
   have hat := hat bs hb
   have hlen : ((l.drop r.e).take n).length = n := by rw [List.length_take, List.length_drop]; omega
   have hri : r.i = r.e * t'.z := by simp only [Ref.i, h1, h2, Nat.add_zero]
   have goal : ∀ (m : Nat), m = ((l.drop r.e).take n).length → VRel H.n β (.vec t' ((l.drop r.e).take n)) (.slice a m cap) := by
    rintro m rfl
    cases hnil : bs.nil with
    | true =>
     have h0 := (hat.1 hnil).1
     have hnl : (l.drop r.e).take n = [] := by rw [h0, List.take_zero]
     rw [hnl]
     exact .vec _ _ cap a 0 0 (fun _ => .bool false) (Nat.zero_le _) ⟨fun h => by simp at h, hs⟩ (fun k v hv => by simp [encL] at hv) (fun k v hv => by simp [encL] at hv)
    | false =>
     have hfro := hR.fro r.g t' l e bs hg hb hnil
     refine .vec _ _ cap a bs.blk (bs.off + r.e * t'.z) (fun k => (β.imm bs.blk (bs.off + r.e * t'.z + k)).getD (.bool false)) (by rw [hlen]; exact hn) ⟨fun hpos => ?_, hs⟩ (fun k v hv => ?_) (fun k v hv => ?_)
     ·have := (hat.2 hnil).1 (by rw [hlen] at hpos; omega)
      rw [this, hri]
     ·obtain ⟨c, hc, _⟩ := hfro _ _ (encL_part _ _ _ _ _ _ hv)
      rw [← Nat.add_assoc] at hc
      rw [hc]; rfl
     ·obtain ⟨c, hc, hr⟩ := hfro _ _ (encL_part _ _ _ _ _ _ hv)
      rw [← Nat.add_assoc] at hc
      rw [hc]; exact hr
   exact goal n hlen.symm
 ·cases h
def FSound (f : Nat → List AV → Heap → Option (List AV × Heap)) : Prop := ∀ n l H l' H', f n l H = some (l', H') → ∀ β w cs, Rel β H w → VsRel H.n β l cs → ∃ β', Melts β H w β' H' ∧ VsRel H.n β' l' cs
theorem Lies.list {N : Nat} {cs : List AV} {ro : Bool} {b : Base} (hl : Lies N β w cs ro b) : ∃ ds : List Value, VsRel N β cs ds ∧ ∀ (j : Nat) (d : Value), ds[j]? = some d → w.cell? ⟨b.blk, b.off + j, none⟩ = some d := by
 refine ⟨(List.range cs.length).map fun j => (w.cell? ⟨b.blk, b.off + j, none⟩).getD (.bool false), VsRel.of_at (by simp) fun j v c hv hc => ?_, fun j d hd => ?_⟩
 ·obtain ⟨c', hc', hr⟩ := hl.cell j v hv
  have hj := (List.getElem?_eq_some_iff.1 hv).1
  rw [List.getElem?_map, List.getElem?_range hj] at hc
  simp only [Option.map_some, hc', Option.getD_some, Option.some.injEq] at hc
  subst hc
  exact hr
 ·have hj : j < cs.length := by have := (List.getElem?_eq_some_iff.1 hd).1; simpa using this
  obtain ⟨c', hc', hr⟩ := hl.cell j cs[j] (List.getElem?_eq_getElem hj)
  rw [List.getElem?_map, List.getElem?_range hj] at hd
  simp only [Option.map_some, hc', Option.getD_some, Option.some.injEq] at hd
  subst hd
  exact hc'
theorem melted (hR : Rel β H w) {g : Nat} {cs : List AV} {e : TypeId} (hrow : H.row g = some (cs, e, false)) {f : Nat → List AV → Heap → Option (List AV × Heap)} (hf : FSound f) {n : Nat} {cs' : List AV} {H1 : Heap} (hm : f n cs H = some (cs', H1))
  {t : Ty} {l : List t.den} (hd : decL t cs' = some l) {cs2 : List AV} {e2 : TypeId} (hg : H1.get g = some (.cells cs2 e2 false)) (hlen : cs2.length = cs'.length) :
  ∃ β1, Melts β H w β1 H1 ∧ H1.row g = some (cs2, e2, false) ∧ (encL t l).length = cs2.length ∧ ∀ b, β1 g = some b → ∀ (j : Nat) (v : AV), (encL t l)[j]? = some v → ∃ c, w.cell? ⟨b.blk, b.off + j, none⟩ = some c ∧ VRel H1.n β1 v c := by
 obtain ⟨b, hb⟩ := hR.tot _ _ _ _ hrow
 obtain ⟨cs1, e1, ro1, hr1, hlies⟩ := hR.lies g b hb
 rw [hrow] at hr1
 cases hr1
 obtain ⟨ds, hds, hcell⟩ := hlies.list
 obtain ⟨β1, hM, hv⟩ := hf _ _ _ _ _ hm β w ds hR hds
 have hL := (decL_like hd).1
 refine ⟨β1, hM, by unfold Heap.row; rw [hg]; rfl, by rw [hL.1, hlen], fun b1 hb1 j v hj => ?_⟩
 have hbb : b1 = b := by
  have : β1.base g = some b1 := hb1
  rw [hM.base, hb] at this
  cases this; rfl
 subst hbb
 obtain ⟨c, hc, hr⟩ := (hL.2.2 _ _ _ hv).at j v hj
 exact ⟨c, hcell j c hc, by rw [hM.n]; exact hr⟩
theorem freezeV_sound {f : Nat → List AV → Heap → Option (List AV × Heap)} (hf : FSound f) {t : Ty} {v v' : AV} {H' : Heap} {c : Value} (h : freezeV f t v H = some (v', H')) (hR : Rel β H w) (hv : VRel H.n β v c) : ∃ β', Melts β H w β' H' ∧ VRel H.n β' v' c := by
 unfold freezeV at h
 split at h
 ·rename_i b r n z
  split at h
  ·rename_i t' l e hg
   obtain ⟨u, hu, he⟩ := map_got h
   cases he
   exact ⟨β, Melts.refl hR, thaw_sound hR hg hu hv⟩
  ·rename_i t' l e hg
   obtain ⟨u, hu, he⟩ := map_got h
   cases he
   have hrow : H.row r.g = some (encL t' l, e, false) := by unfold Heap.row; rw [hg]; rfl
   obtain ⟨β', hM⟩ := hR.freeze hrow t' l e rfl fun bb hb j x hx => by
    obtain ⟨cs1, e1, ro1, hr1, hlies⟩ := hR.lies _ bb hb
    rw [hrow] at hr1
    cases hr1
    exact hlies.cell j x hx
   refine ⟨β', hM, ?_⟩
   have := thaw_sound hM.rel (t := t) (by rw [Heap.get_set, if_pos rfl]) hu (b := b) (c := c) (by rw [hM.n]; exact hv.mono (Nat.le_refl _) hM.keeps)
   rw [hM.n] at this
   exact this
  ·rename_i cs e hg
   split at h
   ·rename_i cs' H1 hm
    split at h
    ·rename_i l cs2 e2 hd hg2
     split at h
     ·rename_i hlen
      obtain ⟨u, hu, he⟩ := map_got h
      cases he
      have hrow : H.row r.g = some (cs, e, false) := by unfold Heap.row; rw [hg]; rfl
      obtain ⟨β1, hM1, hrow1, hl1, hcs1⟩ := melted hR hrow hf hm hd hg2 hlen
      obtain ⟨β2, hM2⟩ := hM1.rel.freeze hrow1 t l e2 hl1 hcs1
      have hM := hM1.trans hM2
      refine ⟨β2, hM, ?_⟩
      have := thaw_sound hM2.rel (t := t) (by rw [Heap.get_set, if_pos rfl]) hu (b := b) (c := c) (by rw [hM.n]; exact hv.mono (Nat.le_refl _) hM.keeps)
      rw [hM.n] at this
      exact this
     ·cases h
    ·cases h
   ·cases h
  ·cases h
 ·cases h
  exact ⟨β, Melts.refl hR, hv⟩
def TSound (f : List AV → Heap → Option (List AV × List AV × Heap)) : Prop := ∀ l H d rest H', f l H = some (d, rest, H') → ∀ β w cs, Rel β H w → VsRel H.n β l cs →
 ∃ β', Melts β H w β' H' ∧ ∃ cs1 cs2, cs = cs1 ++ cs2 ∧ VsRel H.n β' d cs1 ∧ VsRel H.n β' rest cs2
theorem meltN_sound {f : List AV → Heap → Option (List AV × List AV × Heap)} (hf : TSound f) : FSound (meltN f) := by
 intro n
 induction n with
 | zero =>
  intro l H l' H' h β w cs hR hv
  cases l with
  | nil => simp only [meltN, Option.some.injEq, Prod.mk.injEq] at h; obtain ⟨rfl, rfl⟩ := h; exact ⟨β, Melts.refl hR, hv⟩
  | cons x l => simp [meltN] at h
 | succ n ih =>
  intro l H l' H' h β w cs hR hv
  simp only [meltN] at h
  split at h
  ·rename_i d l1 H1 h1
   split at h
   ·rename_i d' H2 h2
    cases h
    obtain ⟨β1, hM1, cs1, cs2, rfl, hv1, hv2⟩ := hf _ _ _ _ _ h1 β w cs hR hv
    obtain ⟨β2, hM2, hv3⟩ := ih _ _ _ _ h2 β1 w cs2 hM1.rel (by rw [hM1.n]; exact hv2)
    refine ⟨β2, hM1.trans hM2, (hv1.mono (Nat.le_refl _) ?_).append ?_⟩
    ·have := hM2.keeps; rw [hM1.n] at this; exact this
    ·rw [hM1.n] at hv3; exact hv3
   ·cases h
  ·cases h
theorem meltT_sound : (t : Ty) → TSound (meltT t)
 | .sl t, l, H, d, rest, H', h, β, w, cs, hR, hv => by
  cases l with
  | nil => simp [meltT] at h
  | cons v l =>
   simp only [meltT] at h
   obtain ⟨u, hu, he⟩ := map_got h
   cases he
   cases hv with
   | cons _ c _ cs h1 h2 =>
    obtain ⟨β', hM, hv'⟩ := freezeV_sound (meltN_sound (meltT_sound t)) hu hR h1
    exact ⟨β', hM, [c], cs, rfl, .one hv', h2.mono (Nat.le_refl _) hM.keeps⟩
 | .pair a b, l, H, d, rest, H', h, β, w, cs, hR, hv => by
  simp only [meltT] at h
  split at h
  ·rename_i d1 l1 H1 h1
   split at h
   ·rename_i d2 l2 H2 h2
    cases h
    obtain ⟨β1, hM1, cs1, cs2, rfl, hv1, hv2⟩ := meltT_sound a _ _ _ _ _ h1 β w cs hR hv
    obtain ⟨β2, hM2, cs3, cs4, rfl, hv3, hv4⟩ := meltT_sound b _ _ _ _ _ h2 β1 w cs2 hM1.rel (by rw [hM1.n]; exact hv2)
    have hk := hM2.keeps
    rw [hM1.n] at hv3 hv4 hk
    exact ⟨β2, hM1.trans hM2, cs1 ++ cs3, cs4, by simp, (hv1.mono (Nat.le_refl _) hk).append hv3, hv4⟩
   ·cases h
  ·cases h
 | .unit, l, H, d, rest, H', h, β, w, cs, hR, hv => by
  simp only [meltT, Option.some.injEq, Prod.mk.injEq] at h
  obtain ⟨rfl, rfl, rfl⟩ := h
  exact ⟨β, Melts.refl hR, [], cs, rfl, .nil, hv⟩
 | .bool, l, H, d, rest, H', h, β, w, cs, hR, hv => one_cell (by cases l with
  | nil => simp [meltT] at h
  | cons v r => simp only [meltT, Option.some.injEq, Prod.mk.injEq] at h; exact ⟨v, r, rfl, h⟩) hR hv
 | .int _, l, H, d, rest, H', h, β, w, cs, hR, hv => one_cell (by cases l with
  | nil => simp [meltT] at h
  | cons v r => simp only [meltT, Option.some.injEq, Prod.mk.injEq] at h; exact ⟨v, r, rfl, h⟩) hR hv
 | .byte, l, H, d, rest, H', h, β, w, cs, hR, hv => one_cell (by cases l with
  | nil => simp [meltT] at h
  | cons v r => simp only [meltT, Option.some.injEq, Prod.mk.injEq] at h; exact ⟨v, r, rfl, h⟩) hR hv
 | .str, l, H, d, rest, H', h, β, w, cs, hR, hv => one_cell (by cases l with
  | nil => simp [meltT] at h
  | cons v r => simp only [meltT, Option.some.injEq, Prod.mk.injEq] at h; exact ⟨v, r, rfl, h⟩) hR hv
where
 one_cell {l : List AV} {H : Heap} {d rest : List AV} {H' : Heap} {β : At} {w : World} {cs : List Value} (h : ∃ v r, l = v :: r ∧ [v] = d ∧ r = rest ∧ H = H') (hR : Rel β H w) (hv : VsRel H.n β l cs) :
   ∃ β', Melts β H w β' H' ∧ ∃ cs1 cs2, cs = cs1 ++ cs2 ∧ VsRel H.n β' d cs1 ∧ VsRel H.n β' rest cs2 := by
  obtain ⟨v, r, rfl, rfl, rfl, rfl⟩ := h
  cases hv with
  | cons _ c _ cs h1 h2 => exact ⟨β, Melts.refl hR, [c], cs, rfl, .one h1, h2⟩
theorem settle_sound {P : Program} {g : Nat} {e : TypeId} {H' : Heap} (h : settle P g e H = some H') (hR : Rel β H w) : ∃ β', Melts β H w β' H' := by
 unfold settle at h
 split at h
 ·cases h; exact ⟨β, Melts.refl hR⟩
 ·rename_i t _
  split at h
  ·rename_i cs e1 hg
   split at h
   ·rename_i cs' H1 hm
    split at h
    ·rename_i l cs2 e2 hd hg2
     split at h
     ·rename_i hlen
      cases h
      have hrow : H.row g = some (cs, e1, false) := by unfold Heap.row; rw [hg]; rfl
      obtain ⟨β1, hM1, hrow1, hl1, hcs1⟩ := melted hR hrow (meltN_sound (meltT_sound t)) hm hd hg2 hlen
      exact ⟨β1, hM1.trans (hM1.rel.alike hrow1 (o := .vec t l e2 false) rfl rfl hl1 (encL_all t l) hcs1)⟩
     ·cases h
    ·cases h
   ·cases h
  ·cases h
end melt
theorem Fits.settle {P : Program} {o : Oper} {a : Act} {β : At} {H H1 H2 : Heap} {w : World} {v : AV} {g : Nat} {e : TypeId} (h : Fits P o a β H w v H1) (hs : settle P g e H1 = some H2) : Fits P o a β H w v H2 := by
 obtain ⟨β1, w1, hR, hLe, h⟩ := h
 obtain ⟨β2, hM⟩ := settle_sound hs hR
 refine ⟨β2, w1, hM.rel, hLe.trans hM.le, ?_⟩
 rcases h with ⟨c, hc, hv⟩ | ⟨hc, hv⟩
 ·exact .inl ⟨c, hc, by rw [hM.n]; exact hv.mono (Nat.le_refl _) hM.keeps⟩
 ·exact .inr ⟨hc, hv⟩
end Go.Vx
end
section
set_option linter.unusedVariables false
set_option linter.unusedSimpArgs false
namespace Go.Vx
section mem
variable {P : Program} {o : Oper} {a : Act} {β : At} {H : Heap} {w : World} {m : Tm}
theorem Lies.new {N : Nat} {w' : World} {C : Array Value} {e : TypeId} {fr : Nat × Nat} {cs : List AV} (hv : VsRel N β cs (C.toList.take cs.length)) (hp : cs.all AV.cell = true) (hle : cs.length ≤ C.size)
  (k : Nat) (hb : w'.heap[k]? = some (.cells C e fr)) (hfr : fr.1 = fr.2 ∨ C.size ≤ fr.1) : Lies N β w' cs false ⟨k, 0, C.size, false⟩ where
 cell := fun j v hj => by
  obtain ⟨c, hc, hr⟩ := hv.at j v hj
  have hj' : j < cs.length := (List.getElem?_eq_some_iff.1 hj).1
  rw [List.getElem?_take_of_lt hj'] at hc
  exact ⟨c, by simp [World.cell?, hb]; simpa using hc, hr⟩
 plain := fun j v hj => List.all_eq_true.1 hp v (List.mem_of_getElem? hj)
 room := hle
 nl := fun hn => by cases hn
 nr := fun _ hn => by cases hn
 blk := fun _ => (Array.getElem?_eq_some_iff.1 hb).1
 free := fun _ _ => ⟨⟨C, e, fr, hb, by simp, by simpa using hfr⟩, fun j hj => by
  obtain ⟨lo, hi⟩ := fr
  simp only [World.frozen?, hb, Nat.zero_add]
  simp at hfr hj ⊢
  omega⟩
theorem heap_alloc_lt (w : World) (ob : Obj) (k : Nat) (hk : k < w.heap.size) : (w.alloc ob).heap[k]? = w.heap[k]? := Go.RowKit.Below.heap_alloc w ob k hk
theorem heap_alloc_at (w : World) (ob : Obj) : (w.alloc ob).heap[w.heap.size]? = some ob := by
 show (w.heap.push ob)[w.heap.size]? = _
 simp
theorem new_row (hR : Rel β H w) {w0 : World} (h0 : w0 = w ∨ w0 = w.drew) {C : Array Value} {e e' : TypeId} {cs : List AV} {ob : AObj} (hob : ob.row = some (cs, e', false)) (hv : VsRel H.n β cs (C.toList.take cs.length)) (hp : cs.all AV.cell = true) (hle : cs.length ≤ C.size) (hty : unT e' = e ∧ (KT ≤ e' → C.size = cs.length)) :
  Rel (put β H.n (some ⟨w.heap.size, 0, C.size, false⟩)) (H.push ob) (w0.alloc (.cells C e)) ∧ Le β H w (put β H.n (some ⟨w.heap.size, 0, C.size, false⟩)) (H.push ob) (w0.alloc (.cells C e)) := by
 have hs : w0.heap = w.heap := by rcases h0 with rfl | rfl <;> rfl
 have hat : (w0.alloc (.cells C e)).heap[w.heap.size]? = some (.cells C e) := by rw [← hs]; exact heap_alloc_at w0 _
 have hlt : ∀ k, k < w.heap.size → (w0.alloc (.cells C e)).heap[k]? = w.heap[k]? := fun k hk => by rw [heap_alloc_lt w0 _ k (by rw [hs]; exact hk), hs]
 constructor
 ·refine hR.push ⟨w.heap.size, 0, C.size, false⟩ hob (fun g b' hb hn => ?_) (fun p c hc => ?_) (fun k hk _ => hlt k hk) ?_ ?_
  ·have := hR.blk_lt hb hn; simp; omega
  ·have := hR.imm_lt hc; simp at this
  ·exact Lies.new (hv.mono (by omega) (Keeps.new _ _ _)) hp hle _ hat (by simp)
  ·exact fun _ => ⟨C, _, by rw [hty.1]; exact hat, fun hk => ⟨rfl, hty.2 hk⟩⟩
 ·refine Le.alloc hR ?_ ?_ ?_ ?_ hlt _ (Nat.le_refl _) ob
  ·rcases h0 with rfl | rfl <;> rfl
  ·rcases h0 with rfl | rfl <;> rfl
  ·rcases h0 with rfl | rfl <;> rfl
  ·rw [World.size_alloc, hs]; omega
theorem ptr_new {N : Nat} {k : Nat} {C : Nat} {t : Bool} : VRel (N + 1) (put β N (some ⟨k, 0, C, false⟩)) (.ptr t (some ⟨N, 0, 0, 0⟩)) (.pointer (some ⟨k, 0, none⟩)) :=
 .ptr _ _ _ (by simp) fun b hb => by
  rw [put_same] at hb
  cases hb
  exact ⟨rfl, rfl⟩
theorem slice_new {t : Bool} {N k C n sz cap : Nat} (hn : n ≤ cap) (hc : cap * sz ≤ C) : VRel (N + 1) (put β N (some ⟨k, 0, C, false⟩)) (.slice t (some ⟨N, 0, sz, 0⟩) n sz) (.slice (some ⟨k, 0, none⟩) n cap) :=
 .slice _ _ _ _ _ _ (by simp) hn (by simp) fun b hb => by
  rw [put_same] at hb
  cases hb
  exact ⟨fun h => (by cases h), fun _ => ⟨fun _ => by simp [Ref.i], by simpa [Ref.i] using hc⟩⟩
theorem all_take {cs : List AV} {C : Array Value} {N : Nat} (h : VsRel N β cs C.toList) : VsRel N β cs (C.toList.take cs.length) ∧ cs.length ≤ C.size := by
 have hl := h.length
 simp only [Array.length_toList] at hl
 rw [List.take_of_length_le (by simp; omega)]
 exact ⟨h, by omega⟩
theorem fits_alloc (hR : Rel β H w) {t : TypeId} {z : AV} (ho : o.op = .alloc t) (hz : zero? P t = some z) (hp : z.cells.all AV.cell = true) (hk : Nat.blt t KT = true) : Fits P o a β H w (.ptr false (some ⟨H.n, 0, 0, 0⟩)) (H.push (.cells z.cells (tagT t) false)) := by
 obtain ⟨c, hc, hv⟩ := zero_sound (N := H.n) (β := β) hz w
 obtain ⟨h1, h2⟩ := all_take hv.cells
 obtain ⟨hr, hle⟩ := new_row hR (.inl rfl) (e := t) (ob := .cells z.cells (tagT t) false) rfl h1 hp h2 ⟨unT_tag hk, fun _ => by have := hv.cells.length; simpa using this.symm⟩
 refine ⟨_, _, hr, hle, .inl ⟨_, ?_, ptr_new⟩⟩
 simp only [execOp, ho]
 refine run_v ?_
 simp [Instr.alloc, hc, newVar, newRow]
theorem fits_box (hR : Rel β H w) (hT : TRel H.n β m a.tmps) {t : TypeId} {x : Operand} {v : AV} (ho : o.op = .box t x) (hx : opnd m x = some v) (hp : v.cells.all AV.cell = true) (hk : Nat.blt t KT = true) : Fits P o a β H w (.ptr false (some ⟨H.n, 0, 0, 0⟩)) (H.push (.cells v.cells (tagT t) false)) := by
 have hv := opnd_sound hT hx
 obtain ⟨h1, h2⟩ := all_take hv.cells
 obtain ⟨hr, hle⟩ := new_row hR (.inl rfl) (e := t) (ob := .cells v.cells (tagT t) false) rfl h1 hp h2 ⟨unT_tag hk, fun _ => by have := hv.cells.length; simpa using this.symm⟩
 refine ⟨_, _, hr, hle, .inl ⟨_, ?_, ptr_new⟩⟩
 simp only [execOp, ho]
 refine run_v ?_
 simp [Instr.box, newVar, newRow]
theorem zeros_at (z : List AV) (s : Nat) (hs : z.length = s) (h0 : s ≠ 0) : ∀ (n j : Nat), j < n * s → (zerosA z n)[j]? = z[j % s]?
 | 0, j, h => by simp at h
 | n + 1, j, h => by
  unfold zerosA
  by_cases hj : j < s
  ·rw [List.getElem?_append_left (by omega), Nat.mod_eq_of_lt hj]
  ·rw [List.getElem?_append_right (by omega), hs, zeros_at z s hs h0 n (j - s) (by rw [Nat.add_mul, Nat.one_mul] at h; omega)]
   congr 1
   have : j = (j - s) + s := by omega
   conv => rhs; rw [this]
   rw [Nat.add_mod_right]
theorem zeros_length (z : List AV) : ∀ n, (zerosA z n).length = n * z.length
 | 0 => by simp [zerosA]
 | n + 1 => by simp [zerosA, zeros_length z n, Nat.add_mul]; omega
theorem zeros_sound {N : Nat} {z : List AV} {C : Array Value} (h : VsRel N β z C.toList) (h0 : z.length ≠ 0) (n k : Nat) (hk : n * z.length ≤ k) : VsRel N β (zerosA z n) ((madeCells C k).toList.take (zerosA z n).length) := by
 have hl := h.length
 simp only [Array.length_toList] at hl
 refine VsRel.of_at ?_ fun j v c hv hc => ?_
 ·simp only [List.length_take, Array.length_toList, size_madeCells, zeros_length]; omega
 ·have hj : j < (zerosA z n).length := (List.getElem?_eq_some_iff.1 hv).1
  rw [List.getElem?_take_of_lt hj] at hc
  rw [zeros_length] at hj
  rw [zeros_at z z.length rfl h0 n j hj] at hv
  obtain ⟨d, hd, hr⟩ := h.at _ v hv
  have hm : j % z.length < C.size := by rw [← hl]; exact Nat.mod_lt _ (by omega)
  have : c = d := by
   simp only [madeCells, Array.getElem?_toList] at hc
   simp only [Array.getElem?_map, Array.getElem?_range] at hc
   rw [if_pos (show j < k from by omega)] at hc
   simp only [Option.map_some, Option.some.injEq] at hc
   rw [← hl] at hc
   rw [getElem!_pos C (j % z.length) hm] at hc
   rw [Array.getElem?_toList, Array.getElem?_eq_getElem hm] at hd
   simp only [Option.some.injEq] at hd
   rw [← hc, ← hd]
  rw [this]
  exact hr
theorem zeros_all {z : List AV} (h : z.all AV.cell = true) : ∀ n, (zerosA z n).all AV.cell = true
 | 0 => rfl
 | n + 1 => by simp only [zerosA, List.all_append, h, zeros_all h n, Bool.and_true]
theorem elem_of {t e : TypeId} (h : sliceElem P t = some e) : P.underlying t = some (.slice e) := by
 unfold sliceElem at h
 split at h
 ·rename_i e' hu
  cases hb : Nat.blt e' KT with
  | true => rw [hb] at h; cases h; exact hu
  | false => rw [hb] at h; cases h
 ·cases h
theorem elem_lt {t e : TypeId} (h : sliceElem P t = some e) : Nat.blt e KT = true := by
 unfold sliceElem at h
 split at h
 ·rename_i e' hu
  cases hb : Nat.blt e' KT with
  | true => rw [hb] at h; cases h; exact hb
  | false => rw [hb] at h; cases h
 ·cases h
theorem ty_low {e : TypeId} {C : Array Value} {cs : List AV} (h : Nat.blt e KT = true) : unT e = e ∧ (KT ≤ e → C.size = cs.length) :=
 ⟨unT_lt h, fun hk => absurd hk (Nat.not_le.2 (show e < KT by simpa [Nat.blt_eq] using h))⟩
theorem VsRel.rep {N : Nat} {β : At} {x y : AV} (h : ∀ c, VRel N β x c → VRel N β y c) : ∀ (n : Nat) {cs : List Value}, VsRel N β (zerosA [x] n) cs → VsRel N β (List.replicate n y) cs
 | 0, _, hv => by cases hv; exact .nil
 | n + 1, _, hv => by
  cases hv with
  | cons _ c _ cs h1 h2 => exact .cons _ _ _ _ (h c h1) (VsRel.rep h n h2)
theorem encL_rep {t : Ty} {d : t.den} {y : AV} (h : enc t d = [y]) : ∀ n, encL t (List.replicate n d) = List.replicate n y
 | 0 => rfl
 | n + 1 => by
  have := encL_rep h n
  unfold encL at this ⊢
  rw [List.replicate_succ, List.flatMap_cons, this, h, List.replicate_succ]; rfl
theorem zeroTy_spec {cs : List AV} {ty : Ty} {d : ty.den} (h : zeroTy cs = some ⟨ty, d⟩) : ∃ x y, cs = [x] ∧ enc ty d = [y] ∧ ∀ {N : Nat} {β : At} (c : Value), VRel N β x c → VRel N β y c := by
 unfold zeroTy at h
 split at h
 ·cases h; exact ⟨_, _, rfl, rfl, fun c hc => by rw [int_of hc]; exact .int _ _ _⟩
 ·cases h; exact ⟨_, _, rfl, rfl, fun c hc => by rw [int_of hc]; exact .int _ _ _⟩
 ·cases h; exact ⟨_, _, rfl, rfl, fun c hc => by obtain ⟨b, rfl, hb⟩ := str_of hc; exact .str _ _ _ hb⟩
 ·cases h; exact ⟨_, _, rfl, rfl, fun c hc => by rw [bool_of hc]; exact .bool _ _⟩
 ·cases h
theorem zerosV {N : Nat} {β : At} {cs : List AV} {ty : Ty} {d : ty.den} (h : zeroTy cs = some ⟨ty, d⟩) (n : Nat) {l : List Value} (hv : VsRel N β (zerosA cs n) l) : VsRel N β (encL ty (List.replicate n d)) l ∧ (encL ty (List.replicate n d)).length = n * cs.length ∧ (encL ty (List.replicate n d)).all AV.cell = true := by
 obtain ⟨x, y, rfl, he, hr⟩ := zeroTy_spec h
 rw [encL_rep he]
 refine ⟨VsRel.rep (fun c => hr c) n hv, by simp, ?_⟩
 have := enc_all ty d
 rw [he] at this
 simp only [List.all_eq_true, List.mem_replicate]
 rintro v ⟨_, rfl⟩
 simpa using this
theorem fits_makeSlice (hR : Rel β H w) (hT : TRel H.n β m a.tmps) {t : TypeId} {x y : Operand} {p q v : AV} {H' : Heap} (ho : o.op = .makeSlice t x y) (hx : opnd m x = some p) (hy : opnd m y = some q) (h : makeSliceA P t p q H = some (v, H')) : Fits P o a β H w v H' := by
 unfold makeSliceA at h
 split at h
 ·rename_i e tl l tc c he
  split at h
  ·rename_i sz by_ z hs hby hz
   split at h
   ·rename_i hc
    obtain ⟨h0, hzl, hl0, hlc, hb, hc2, hall⟩ := hc
    have hu := elem_of he
    have ex : a.eval x = .int .i64 l := int_of (opnd_sound hT hx)
    have ey : a.eval y = .int .i64 c := int_of (opnd_sound hT hy)
    unfold zero? at hz
    unfold size? at hs
    unfold bytes? at hby
    cases hi : P.info? e with
    | none => rw [hi] at hs; cases hs
    | some i =>
     rw [hi] at hz hs hby
     simp only [Option.map_some, Option.some.injEq, Option.bind_some] at hz hs hby
     cases hzz : i.zero with
     | none => rw [hzz] at hz; cases hz
     | some zc =>
      rw [hzz] at hz
      have hzv : VRel H.n β z zc := ofConst_sound hz
      have hrun := run_make (P := P) w t e i zc hu hi hzz .i64 .i64 l c hl0 hlc (by rw [hby, Int.mul_comm]; omega) (by omega)
      have hk : l.toNat * z.cells.length ≤ c.toNat * i.size := by rw [hzl, hs]; exact Nat.mul_le_mul_right _ (by omega)
      have hv := zeros_sound hzv.cells (by omega) l.toNat (c.toNat * i.size) hk
      have hlen : (zerosA z.cells l.toNat).length ≤ (madeCells zc.cells (c.toNat * i.size)).size := by rw [zeros_length, size_madeCells]; exact hk
      split at h
      ·rename_i ty d hzt
       cases h
       have hzt' : zeroTy z.cells = some ⟨ty, d⟩ := by
        split at hzt
        ·exact hzt
        ·cases hzt
       obtain ⟨g1, g2, g3⟩ := zerosV hzt' l.toNat hv
       rw [zeros_length] at g1 hlen
       rw [← g2] at g1 hlen
       obtain ⟨hr, hle⟩ := new_row hR (.inl rfl) (e := e) (ob := .vec ty (List.replicate l.toNat d) e false) rfl g1 g3 hlen (ty_low (elem_lt he))
       refine ⟨_, _, hr, hle, .inl ⟨_, ?_, slice_new (n := l.toNat) (cap := c.toNat) (by omega) (by rw [size_madeCells, hs]; exact Nat.le_refl _)⟩⟩
       simp only [execOp, ho, ex, ey]
       exact run_v hrun
      ·cases h
       obtain ⟨hr, hle⟩ := new_row hR (.inl rfl) (e := e) (ob := .cells (zerosA z.cells l.toNat) e false) rfl hv (zeros_all hall _) hlen (ty_low (elem_lt he))
       refine ⟨_, _, hr, hle, .inl ⟨_, ?_, slice_new (n := l.toNat) (cap := c.toNat) (by omega) (by rw [size_madeCells, hs]; exact Nat.le_refl _)⟩⟩
       simp only [execOp, ho, ex, ey]
       exact run_v hrun
   ·cases h
  ·cases h
 ·cases h
theorem fits_buildSlice (hR : Rel β H w) (hT : TRel H.n β m a.tmps) {t e : TypeId} {n s : Nat} {parts : Array (Nat × Operand)} {z : AV} {ps : List (Nat × AV)} {cs : List AV} (ho : o.op = .buildSlice t n parts)
  (he : sliceElem P t = some e) (hp : partsA m parts.toList = some ps) (hs : size? P e = some s) (hz : zero? P e = some z) (h0 : s ≠ 0) (hn : n * s ≤ 16777216) (hzl : z.cells.length = s)
  (h : fillA (fun i => some (i * s, s)) (zerosA z.cells n) ps = some cs) (hall : cs.all AV.cell = true) (hcl : cs.length = n * s) : Fits P o a β H w (.slice false (some ⟨H.n, 0, s, 0⟩) n s) (H.push (.cells cs e false)) := by
 have hu := elem_of he
 obtain ⟨c, hc, hzc⟩ := zero_sound (N := H.n) (β := β) hz w
 obtain ⟨e1, e2⟩ := partsA_sound hT hp
 have hk : n * z.cells.length ≤ n * s := by rw [hzl]; exact Nat.le_refl _
 have hzs := zeros_sound hzc.cells (by omega) n (n * s) hk
 have hsz : (zerosA z.cells n).length = n * s := by rw [zeros_length, hzl]
 have hzs' : VsRel H.n β (zerosA z.cells n) (madeCells c.cells (n * s)).toList := by
  rw [List.take_of_length_le (by rw [hsz, Array.length_toList, size_madeCells]; exact Nat.le_refl _)] at hzs
  exact hzs
 obtain ⟨ds, hd, hr⟩ := fill_sound ps _ (zerosA z.cells n) cs (madeCells c.cells (n * s)) h e1 e2 hzs'
 obtain ⟨h1, h2⟩ := all_take hr
 obtain ⟨hrel, hle⟩ := new_row hR (.inl rfl) (e := e) (ob := .cells cs e false) rfl h1 hall h2 (ty_low (elem_lt he))
 have hdl := hr.length
 simp only [Array.length_toList] at hdl
 refine ⟨_, _, hrel, hle, .inl ⟨_, ?_, slice_new (Nat.le_refl _) (by omega)⟩⟩
 simp only [execOp, ho]
 refine run_v ?_
 have hlim : ¬ (n * s > 2 ^ 24) := by omega
 simp only [Instr.buildSlice, Sem.run_bind, run_underlying hu, Result.andThen_ok, run_size hs, if_neg hlim]
 by_cases hz0 : n * s = 0
 ·have hm : ∀ z : Array Value, (Array.range (n * s)).map (z[· % z.size]!) = #[] := by intro z; rw [hz0]; simp
  have hm' : madeCells c.cells (n * s) = #[] := hm c.cells
  rw [hm'] at hd
  simp only [if_pos hz0, Sem.run_pure, Result.andThen_ok, hm, Array.toList_map, hd]
  simp [newRow]
 ·simp only [if_neg hz0, Sem.run_bind, hc, Result.andThen_ok, Sem.run_pure]
  have hm : (Array.range (n * s)).map (c.cells[· % c.cells.size]!) = madeCells c.cells (n * s) := rfl
  simp only [hm, Array.toList_map, hd]
  simp [newRow]
end mem
end Go.Vx
end
section
set_option linter.unusedVariables false
set_option linter.unusedSimpArgs false
namespace Go.Vx
section mem
variable {P : Program} {o : Oper} {a : Act} {β : At} {H : Heap} {w : World} {m : Tm}
theorem row_read (hR : Rel β H w) {r : Ref} {n : Nat} {l : List AV} (h : rowAt H r n = some l) : ∃ b cs e ro, β r.g = some b ∧ H.row r.g = some (cs, e, ro) ∧ Lies H.n β w cs ro b ∧ r.i + n ≤ cs.length ∧ l = (cs.drop r.i).take n ∧
  ∃ vs : List Value, vs.length = n ∧ (∀ j v, vs[j]? = some v → w.cell? ((⟨b.blk, b.off + r.i, none⟩ : Addr).add j) = some v) ∧ VsRel H.n β l vs := by
 unfold rowAt at h
 split at h
 ·rename_i cs e ro hget
  split at h
  ·rename_i hle
   cases h
   obtain ⟨b, hb⟩ := hR.tot _ _ _ _ hget
   obtain ⟨cs', e', ro', hget', hl⟩ := hR.lies _ b hb
   rw [hget] at hget'
   cases hget'
   exact ⟨b, cs, e, ro, hb, hget, hl, hle, rfl, cells_read hl r.i n hle⟩
  ·cases h
 ·cases h
theorem bytes_rel {N : Nat} {t : Bool} {s : List UInt8} {b : ByteArray} (h : b.data.toList = s) : VsRel N β (bytesAV t s) (byteCells b) := by
 unfold bytesAV byteCells
 rw [h]
 induction s generalizing b with
 | nil => exact .nil
 | cons x s ih => exact .cons _ _ _ _ (.int _ _ _) (ih (b := ⟨s.toArray⟩) (by simp))
theorem lot_row {ob : AObj} {r : Ref} {n s : Nat} {L : Lot} (h : ob.srcAt r n s = some L) : ∃ cs e ro, ob.row = some (cs, e, ro) ∧ r.i + n * s ≤ cs.length ∧ L.list = (cs.drop r.i).take (n * s) := by
 unfold AObj.srcAt at h
 split at h
 ·rename_i t l e ro
  split at h
  ·rename_i hc
   obtain ⟨hz, ho, hs, hle⟩ := hc
   cases h
   have hi : r.i = r.e * t.z := by unfold Ref.i; rw [hz, ho, Nat.add_zero]
   refine ⟨_, _, _, rfl, ?_, ?_⟩
   ·rw [encL_length, hi, hs, ← Nat.add_mul]; exact Nat.mul_le_mul_right _ hle
   ·simp only [Lot.list]
    rw [encL_take, encL_drop, hi, hs]
  ·cases h
 ·rename_i t l e
  split at h
  ·rename_i hc
   obtain ⟨hz, ho, hs, hle⟩ := hc
   cases h
   have hi : r.i = r.e * t.z := by unfold Ref.i; rw [hz, ho, Nat.add_zero]
   refine ⟨_, _, _, rfl, ?_, ?_⟩
   ·rw [encL_length, hi, hs, ← Nat.add_mul]; exact Nat.mul_le_mul_right _ hle
   ·simp only [Lot.list]
    rw [encL_take, encL_drop, hi, hs]
  ·cases h
 ·split at h
  ·rename_i cs e ro hr
   split at h
   ·rename_i hle; cases h; exact ⟨cs, e, ro, hr, hle, rfl⟩
   ·cases h
  ·cases h
theorem sliceSrc_row {r : Ref} {n s : Nat} {L : Lot} (h : sliceSrc H (some r) n s = some L) : rowAt H r (n * s) = some L.list := by
 simp only [sliceSrc] at h
 split at h
 ·rename_i ob hob
  obtain ⟨cs, e, ro, hr, hle, hl⟩ := lot_row h
  have : H.row r.g = some (cs, e, ro) := by unfold Heap.row; rw [hob]; exact hr
  unfold rowAt
  rw [this, hl]
  simp only [if_pos hle]
 ·cases h
theorem lot_ok {L : Lot} (h : L.ok = true) : L.list.all AV.cell = true := by
 cases L with
 | cells l => exact h
 | vec t l => exact encL_all t l
theorem join_row (a b : Lot) (e : TypeId) : ∃ L, (joinRow a b e).row = some (L, e, false) ∧ Like (a.list ++ b.list) L := by
 unfold joinRow
 split
 ·rename_i t l t' l'
  split
  ·rename_i ht; subst ht; exact ⟨_, rfl, by rw [encL_append]; exact Like.refl _⟩
  ·exact ⟨_, rfl, Like.refl _⟩
 ·split
  ·rename_i h; exact ⟨_, rfl, by rw [encL_append]; exact (Like.refl _).append (decL_like h).1⟩
  ·exact ⟨_, rfl, Like.refl _⟩
 ·split
  ·rename_i h; exact ⟨_, rfl, by rw [encL_append]; exact (decL_like h).1.append (Like.refl _)⟩
  ·exact ⟨_, rfl, Like.refl _⟩
 ·exact ⟨_, rfl, Like.refl _⟩
theorem encL_byte : ∀ s : List UInt8, encL .byte s = bytesAV true s
 | [] => rfl
 | b :: s => congrArg (AV.int true .u8 (b.toNat : Int) :: ·) (encL_byte s)
theorem strSrc_list (t : Bool) (s : List UInt8) : ∃ u, (strSrc t s).list = bytesAV u s := by
 cases t with
 | true => exact ⟨true, encL_byte s⟩
 | false => exact ⟨false, rfl⟩
theorem src_sound (hR : Rel β H w) {x : AV} {c : Value} (hx : VRel H.n β x c) {sz : Nat} {new : Lot} {n : Nat} {tn : Bool} (h : srcCells H sz x = some (new, n, tn)) (hn : n ≠ 0) (hp : new.list.all AV.cell = true) {u : TypeId} (hu : kindOf P u = 3 ∨ kindOf P u = 7)
  (hk : (kindOf P u = 7 → ∃ t s, x = .str t s) ∧ (kindOf P u = 3 → (∃ t r q z, x = .slice t r q z) ∨ ∃ t l, x = .vec t l)) : ∃ news, Src P sz u c n news w ∧ VsRel H.n β new.list news := by
 obtain ⟨_, _, h3, _, _, _, h7⟩ := under_of_kind (P := P) (t := u)
 rcases hu with hu | hu
 ·obtain ⟨e', he⟩ := h3 hu
  rcases hk.2 hu with ⟨tt, r, q, z, rfl⟩ | ⟨tt, l, rfl⟩
  ·cases hx with
   | snil => simp only [srcCells] at h; cases h; exact absurd rfl hn
   | slice _ r _ _ cap a hg hle hsm hb =>
    simp only [srcCells] at h
    split at h
    ·rename_i e
     subst e
     cases hr0 : sliceSrc H (some r) q z with
     | none => rw [hr0] at h; cases h
     | some l =>
      rw [hr0] at h
      cases h
      have hr := sliceSrc_row hr0
      obtain ⟨b, cs, t, ro, hbg, hget, hl, hle', hll, vs, hlen, hc, hv⟩ := row_read hR hr
      obtain ⟨h1, h2⟩ := hb b hbg
      have hbn : b.nil = false := by
       cases e : b.nil with
       | false => rfl
       | true => have := h1 e; omega
      rw [(h2 hbn).1 (by omega)]
      exact ⟨vs, Src.ofSlice w he _ _ _ vs hlen hc (one_of_plain hv hp), hv⟩
    ·cases h
  ·cases hx with
   | vec _ _ cap a b o cs hle ha h1 h2 =>
    simp only [srcCells] at h
    split at h
    ·rename_i e
     subst e
     cases h
     obtain ⟨vs, hlen, hcv, hr⟩ := imm_read hR h1 h2 0 (encL tt l).length (by omega)
     rw [List.drop_zero, List.take_length] at hr
     rw [ha.1 (by omega)]
     rw [encL_length] at hlen
     exact ⟨vs, Src.ofSlice w he _ _ _ vs hlen (by simpa using hcv) (one_of_plain hr hp), hr⟩
    ·cases h
 ·obtain ⟨tt, s, rfl⟩ := hk.1 hu
  obtain ⟨b, rfl, hb⟩ := str_of hx
  simp only [srcCells] at h
  split at h
  ·rename_i e
   subst e
   cases h
   obtain ⟨uu, hs⟩ := strSrc_list tn s
   refine ⟨byteCells b, ?_, by rw [hs]; exact bytes_rel hb⟩
   have := Src.ofString (P := P) w (h7 hu) b
   rw [slen hb] at this
   exact this
  ·cases h
theorem append_zero (t u ty e : TypeId) (i : TypeInfo) (ht : P.underlying t = some (.slice e)) (hi : P.info? e = some i) (hu : (∃ e', P.underlying u = some (.slice e')) ∨ P.underlying u = some .string) (base : Option Addr) (k c : Nat) (hc : k ≤ c) (x : Value)
  (hx : (∃ b cap, x = .slice b 0 cap) ∨ ∃ s : ByteArray, x = .string s ∧ s.size = 0) (w : World) : (Builtin.append_ #[t, u] ty #[.slice base k c, x]).run P w = .ok (.slice base k c) w := by
 have hf : (Builtin.lenOf x).run P w = .ok 0 w ∧ (Builtin.firstCells i.size 0 x).run P w = .ok #[] w := by
  rcases hx with ⟨b, cap, rfl⟩ | ⟨s, rfl, hs⟩
  ·refine ⟨by simp [Builtin.lenOf], ?_⟩
   cases b with
   | none => simp [Builtin.firstCells]
   | some b => simp [Builtin.firstCells, loadCells, loadCellsFrom]
  ·refine ⟨by simp [Builtin.lenOf, hs], ?_⟩
   simp [Builtin.firstCells]
 rcases hu with ⟨e', hu⟩ | hu <;> cases base <;>
  simp [Builtin.append_, run_underlying ht, run_underlying hu, sizeOf, typeInfo, hi, hf.1, hf.2, hc, storeCells]
theorem grownCap_le (w : World) (need old : Nat) (e : TypeId) : need ≤ grownCap w need old e := by
 simp only [grownCap, Question.cut]
 omega
theorem zeroCells_size (z : Array Value) (n : Nat) : (Builtin.zeroCells z n).size = n * z.size := by simp [Builtin.zeroCells]
theorem append_sound (hR : Rel β H w) {t u ty : TypeId} {s x v : AV} {cs cx : Value} (hs : VRel H.n β s cs) (hx : VRel H.n β x cx) (hu : kindOf P u = 3 ∨ kindOf P u = 7) {H' : Heap} (h : appendA P t s x H = some (v, H'))
  (hk : (kindOf P u = 7 → ∃ tt q, x = .str tt q) ∧ (kindOf P u = 3 → (∃ tt r q z, x = .slice tt r q z) ∨ ∃ t l, x = .vec t l)) :
  ∃ β' w' c, Rel β' H' w' ∧ Le β H w β' H' w' ∧ (Builtin.append_ #[t, u] ty #[cs, cx]).run P w = .ok c w' ∧ VRel H'.n β' v c := by
 have hkind : (∃ e', P.underlying u = some (.slice e')) ∨ P.underlying u = some .string := by
  obtain ⟨_, _, h3, _, _, _, h7⟩ := under_of_kind (P := P) (t := u)
  rcases hu with hu | hu
  ·exact .inl (h3 hu)
  ·exact .inr (h7 hu)
 unfold appendA at h
 split at h
 ·cases h
 ·rename_i e he
  have ht := elem_of he
  split at h
  ·rename_i sz by_ ze hsz hby hze
   split at h
   ·cases h
   ·rename_i hpos
    split at h
    ·cases h
    ·rename_i new n tn hsrc
     unfold size? at hsz
     unfold bytes? at hby
     unfold zero? at hze
     cases hi : P.info? e with
     | none => rw [hi] at hsz; cases hsz
     | some i =>
      rw [hi] at hsz hby hze
      simp only [Option.map_some, Option.some.injEq, Option.bind_some] at hsz hby hze
      cases hzz : i.zero with
      | none => rw [hzz] at hze; cases hze
      | some zc =>
       rw [hzz] at hze
       have hzv : VRel H.n β ze zc := ofConst_sound hze
       have hzl := hzv.cells.length
       simp only [Array.length_toList] at hzl
       have hx00 : n = 0 → (∃ b cap, cx = .slice b 0 cap) ∨ ∃ s : ByteArray, cx = .string s ∧ s.size = 0 := by
        intro h0
        subst h0
        cases hx with
        | snil => exact .inl ⟨_, 0, rfl⟩
        | slice _ r' q' z' cap ad hg hle hsm hb =>
         simp only [srcCells] at hsrc
         split at hsrc
         ·cases hr : sliceSrc H (some r') q' sz with
          | none => rw [hr] at hsrc; cases hsrc
          | some l => rw [hr] at hsrc; simp only [Option.map_some, Option.some.injEq, Prod.mk.injEq] at hsrc; obtain ⟨_, rfl, _⟩ := hsrc; exact .inl ⟨_, _, rfl⟩
         ·cases hsrc
        | vec tt l' cap a b o cs hle ha h1 h2 =>
         simp only [srcCells] at hsrc
         split at hsrc
         ·simp only [Option.some.injEq, Prod.mk.injEq] at hsrc
          rw [hsrc.2.1]
          exact .inl ⟨_, _, rfl⟩
         ·cases hsrc
        | eptr => cases hsrc
        | str _ q b hb =>
         simp only [srcCells] at hsrc
         split at hsrc
         ·simp only [Option.some.injEq, Prod.mk.injEq] at hsrc
          exact .inr ⟨b, rfl, by rw [slen hb]; exact hsrc.2.1⟩
         ·cases hsrc
        | bool => cases hsrc
        | int => cases hsrc
        | pnil => cases hsrc
        | ptr => cases hsrc
        | mnil => cases hsrc
        | func => cases hsrc
        | nilFunc => cases hsrc
        | nilIface => cases hsrc
        | agg => cases hsrc
        | tup => cases hsrc
       split at h
       ·rename_i h00
        obtain ⟨h0, _⟩ := h00
        split at h
        ·rename_i ts r q z
         split at h
         ·cases h
          have hx0 := hx00 h0
          refine ⟨β, w, cs, hR, Le.refl _ _ _, ?_, hs⟩
          cases hs with
          | snil => exact append_zero t u ty e i ht hi hkind _ 0 0 (Nat.le_refl _) cx hx0 w
          | slice _ _ _ _ cap ad hg hle hsm hb => exact append_zero t u ty e i ht hi hkind _ _ _ hle cx hx0 w
         ·cases h
        ·cases h
       ·rename_i hn0
        have hnl0 : n = 0 → new.list.length = 0 := by
         intro h0
         subst h0
         unfold srcCells at hsrc
         split at hsrc
         ·cases hsrc; rfl
         ·rename_i r' q' z'
          split at hsrc
          ·cases hr : sliceSrc H (some r') q' sz with
           | none => rw [hr] at hsrc; cases hsrc
           | some l =>
            rw [hr] at hsrc
            simp only [Option.map_some, Option.some.injEq, Prod.mk.injEq] at hsrc
            obtain ⟨rfl, rfl, _⟩ := hsrc
            obtain ⟨_, _, _, _, _, _, _, _, hll, _⟩ := row_read hR (sliceSrc_row hr)
            rw [hll]; simp
          ·cases hsrc
         ·split at hsrc
          ·simp only [Option.some.injEq, Prod.mk.injEq] at hsrc
           obtain ⟨rfl, h2, _⟩ := hsrc
           simp only [Lot.list, encL_length, h2, Nat.zero_mul]
          ·cases hsrc
         ·rename_i s'
          split at hsrc
          ·simp only [Option.some.injEq, Prod.mk.injEq] at hsrc
           obtain ⟨rfl, h2, _⟩ := hsrc
           obtain ⟨uu, hsl⟩ := strSrc_list tn s'
           rename_i tt _ _
           obtain ⟨uu, hsl⟩ := strSrc_list tt s'
           rw [hsl]
           simp [bytesAV, h2]
          ·cases hsrc
         ·cases hsrc
        split at h
        ·-- a nil slice
         rename_i ts q z
         split at h
         ·rename_i hc
          cases h
          have hok := lot_ok hc.2
          by_cases hn : n = 0
          ·-- and nothing behind it
           have hnl := hnl0 hn
           obtain ⟨L, hrow, hlike⟩ := join_row (.cells []) new e
           have hL0 : L = [] := by
            have := hlike.1
            rw [show (Lot.cells []).list = [] from rfl, List.nil_append, hnl] at this
            exact List.length_eq_zero_iff.1 this
           subst hL0
           cases hs with
           | snil _ _ a0 _ =>
            have hrun := append_zero t u ty e i ht hi hkind a0 0 0 (Nat.le_refl _) cx (hx00 hn) w
            have hb0 : Base := ⟨w.heap.size, 0, 0, true⟩
            have hRel := hR.push (w' := w) ⟨w.heap.size, 0, 0, true⟩ hrow (fun g b' hb hn' => by have := hR.blk_lt hb hn'; simp; omega) (fun p c hc => by have := hR.imm_lt hc; simp at this) (fun _ _ _ => rfl)
             ⟨fun j v hv => (by simp at hv), fun j v hv => (by simp at hv), (by simp), fun _ => rfl, fun _ _ => rfl, fun h => (by cases h), fun _ h => (by cases h)⟩ (fun hn => by cases hn)
            have hLe := Le.alloc (w' := w) hR rfl rfl rfl (Nat.le_refl _) (fun _ _ => rfl) ⟨w.heap.size, 0, 0, true⟩ (Nat.le_refl _) (joinRow (.cells []) new e)
            refine ⟨_, _, _, hRel, hLe, hrun, ?_⟩
            rw [hn]
            refine .slice _ _ _ _ _ _ (by simp) (Nat.le_refl _) (fun _ => rfl) fun b hb => ?_
            rw [put_same] at hb
            cases hb
            exact ⟨fun _ => ⟨rfl, fun _ => rfl⟩, fun h => by cases h⟩
          obtain ⟨news, hS, hv⟩ := src_sound hR hx hsrc hn hok hu hk
          obtain ⟨L, hrow, hlike⟩ := join_row (.cells []) new e
          rw [← hsz] at hS
          cases hs with
          | snil _ _ a0 _ =>
           have hb1 : 1 ≤ by_ := by omega
           have hn47 : n ≤ 140737488355328 := Nat.le_trans (Nat.le_mul_of_pos_right n hb1) hc.1
           have hrun := run_append_grow_src (P := P) w t u ty e i zc ht hi hzz a0 0 0 [] (by cases a0 <;> simp [Builtin.firstCells, loadCells, loadCellsFrom]) cx n news hS (by omega) (by omega) (by
            have := growslice_fits (need := 0 + n) (old := 0) (bytes := i.bytes) (by omega) (by rw [hby]; simpa using hc.1)
            exact this)
           have hlen := hv.length
           have hcap := grownCap_le w (0 + n) 0 e
           generalize hC : (([] ++ news).toArray ++ Builtin.zeroCells zc.cells (grownCap w (0 + n) 0 e - (0 + n))) = C at hrun
           have hCl : C.toList = news ++ (Builtin.zeroCells zc.cells (grownCap w (0 + n) 0 e - (0 + n))).toList := by rw [← hC]; simp
           have hCs : C.size = n * sz + (grownCap w (0 + n) 0 e - (0 + n)) * sz := by
            have : C.size = C.toList.length := by simp
            rw [this, hCl, List.length_append, hS.newsLen, Array.length_toList, zeroCells_size, ← hzl, hsz]
            have : ze.cells.length = sz := by omega
            rw [this]
           have htk : VsRel H.n β new.list (C.toList.take new.list.length) := by rw [hCl, List.take_append_of_le_length (by omega), List.take_of_length_le (by omega)]; exact hv
           have hlike' : Like new.list L := by simpa [Lot.list] using hlike
           obtain ⟨hr, hle⟩ := new_row hR (.inr rfl) (e := e) hrow (by rw [hlike'.1]; exact hlike'.2.2 _ _ _ htk) (hlike'.2.1 hok) (by
            rw [hlike'.1]
            have : C.size = C.toList.length := by simp
            rw [this, hCl, List.length_append]; omega) (ty_low (elem_lt he))
           refine ⟨_, _, _, hr, hle, hrun, ?_⟩
           rw [Nat.zero_add]
           refine slice_new (by simpa using hcap) ?_
           rw [hCs, ← Nat.add_mul]
           simp only [Nat.zero_add] at hcap ⊢
           exact Nat.mul_le_mul_right _ (by omega)
         ·cases h
        ·rename_i ts r q z
         split at h
         ·rename_i hzs
          subst hzs
          split at h
          ·rename_i cs0 e0 old hget hold0
           have hold := sliceSrc_row hold0
           split at h
           ·rename_i hc
            cases h
            rw [hc.1.2] at hget
            have hc := And.intro hc.1.1 hc.2
            have hok := lot_ok hc.2
            by_cases hn : n = 0
            ·-- nothing behind it
             have hnl := hnl0 hn
             obtain ⟨L, hrow, hlike⟩ := join_row old new e
             obtain ⟨b, cs1, e1, ro1, hbg, hget1, hl, hle1, hold1, vs, hvl, hvc, hvr⟩ := row_read hR hold
             rw [hget] at hget1
             cases hget1
             have hg : r.g < H.n := hR.row_lt hget
             have hnew : new.list = [] := List.length_eq_zero_iff.1 hnl
             rw [hnew, List.append_nil] at hlike
             have holdl : old.list.length = q * z := by rw [hvr.length, hvl]
             have hplain : old.list.all AV.cell = true := by
              rw [hold1]
              exact List.all_eq_true.2 fun y hy => by
               obtain ⟨k, hk⟩ := List.mem_iff_getElem?.1 (List.mem_of_mem_drop (List.mem_of_mem_take hy))
               exact hl.plain k y hk
             cases hs with
             | slice _ _ _ _ cap a0 hg' hle hsm hb =>
              obtain ⟨hnl', hat0⟩ := hb b hbg
              have hrun := append_zero t u ty e i ht hi hkind a0 q cap hle cx (hx00 hn) w
              have hkill := hR.kill hg
              cases hbn : b.nil with
              | true =>
               have hcap0 := (hnl' hbn).2 (hl.nr rfl hbn)
               have hq0 : q = 0 := by omega
               have hL0 : L = [] := by
                have := hlike.1
                rw [holdl, hq0, Nat.zero_mul] at this
                exact List.length_eq_zero_iff.1 this
               subst hL0
               have hRel := hkill.push (w' := w) ⟨w.heap.size, 0, 0, true⟩ hrow (fun g b' hb hn' => by have := hkill.blk_lt hb hn'; simp; omega) (fun p c hc => by have := hR.imm_lt hc; simp at this) (fun _ _ _ => rfl)
                ⟨fun j v hv => (by simp at hv), fun j v hv => (by simp at hv), (by simp), fun _ => rfl, fun _ _ => rfl, fun h => (by cases h), fun _ h => (by cases h)⟩ (fun hn => by cases hn)
               have hLe := Le.take (w' := w) (b' := ⟨w.heap.size, 0, 0, true⟩) hR (joinRow old new e) hbg hget (.inr (Nat.le_refl _)) rfl rfl rfl (Nat.le_refl _) (fun _ _ _ => rfl)
               refine ⟨_, _, _, hRel, hLe, hrun, ?_⟩
               rw [hn, Nat.add_zero]
               refine .slice _ _ _ _ _ _ (by simp) hle hsm fun b2 hb2 => ?_
               simp only [Heap.n_set] at hb2
               rw [put_same] at hb2
               cases hb2
               exact ⟨fun _ => ⟨hq0, fun _ => hcap0⟩, fun h => by cases h⟩
              | false =>
               obtain ⟨had, hroom⟩ := hat0 hbn
               have hqz : q * z ≤ cap * z := Nat.mul_le_mul_right _ hle
               have hKeep : Keeps H.n β (put (put β r.g none) H.n (some ⟨b.blk, b.off + r.i, cap * z, false⟩)) := (Keeps.kill _ _ _).trans (Keeps.new _ _ _) (Nat.le_refl _)
               have hL : Lies (H.n + 1) (put (put β r.g none) H.n (some ⟨b.blk, b.off + r.i, cap * z, false⟩)) w old.list false ⟨b.blk, b.off + r.i, cap * z, false⟩ := by
                constructor
                ·intro k y hy
                 obtain ⟨c, hc1, hr1⟩ := hvr.at k y hy
                 have hcell := hvc k c hc1
                 rw [place_add] at hcell
                 exact ⟨c, by rw [Nat.add_assoc]; exact hcell, hr1.mono (by omega) hKeep⟩
                ·exact fun k y hy => List.all_eq_true.1 hplain y (List.mem_of_getElem? hy)
                ·rw [holdl]; exact hqz
                ·intro hn; cases hn
                ·intro _ hn; cases hn
                ·intro _; exact hl.blk hbn
                ·intro _ _
                 obtain ⟨⟨C, eC, fr, hC, hsC⟩, hf⟩ := hl.free rfl hbn
                 exact ⟨⟨C, eC, fr, hC, by simp only; omega, by simp only; have := hsC.2; omega⟩, fun k hk' => by
                  have := hf (r.i + k) (by simp only at hk'; omega)
                  rwa [← Nat.add_assoc] at this⟩
               have hmut : Mut β H b.blk := ⟨r.g, b, _, _, hbg, hget, hbn, rfl⟩
               have hRel := hkill.push (w' := w) ⟨b.blk, b.off + r.i, cap * z, false⟩ hrow (fun g' b2 hb2 hn2 => by
                by_cases e' : g' = r.g
                ·subst e'; rw [put_same] at hb2; cases hb2
                ·rw [put_ne _ _ _ _ e'] at hb2
                 exact (hR.apart r.g g' b b2 _ _ (Ne.symm e') hbg hb2 hget hbn hn2).symm) (fun p c hc => hR.immm _ _ _ hc hmut) (fun _ _ _ => rfl) (by simpa using hL.like hlike) ((hR.typ _ _ _ _ hbg hget).low (elem_lt he) fun _ => ⟨hbn, rfl⟩)
               have hLe := Le.take (w' := w) (b' := ⟨b.blk, b.off + r.i, cap * z, false⟩) hR (joinRow old new e) hbg hget (.inl ⟨hbn, rfl⟩) rfl rfl rfl (Nat.le_refl _) (fun _ _ _ => rfl)
               refine ⟨_, _, _, hRel, hLe, hrun, ?_⟩
               rw [hn, Nat.add_zero]
               refine .slice _ _ _ _ _ _ (by simp) hle hsm fun b2 hb2 => ?_
               simp only [Heap.n_set] at hb2
               rw [put_same] at hb2
               cases hb2
               exact ⟨fun hn => (by cases hn), fun _ => ⟨fun hc => by simpa [Ref.i] using had hc, by simp [Ref.i]⟩⟩
            obtain ⟨news, hS, hv⟩ := src_sound hR hx hsrc hn hok hu hk
            obtain ⟨L, hrow, hlike⟩ := join_row old new e
            obtain ⟨b, cs1, e1, ro1, hbg, hget1, hl, hle1, hold1, vs, hvl, hvc, hvr⟩ := row_read hR hold
            rw [hget] at hget1
            cases hget1
            have hb1 : 1 ≤ by_ := by omega
            have hn47 : q + n ≤ 140737488355328 := Nat.le_trans (Nat.le_mul_of_pos_right (q + n) hb1) hc.1
            have hlen := hv.length
            have hS' := hS.newsLen
            have hplain : (old.list ++ new.list).all AV.cell = true := by
             rw [List.all_append, hok, Bool.and_true, hold1]
             exact List.all_eq_true.2 fun y hy => by
              obtain ⟨k, hk⟩ := List.mem_iff_getElem?.1 (List.mem_of_mem_drop (List.mem_of_mem_take hy))
              exact hl.plain k y hk
            have holdl : old.list.length = q * z := by rw [hvr.length, hvl]
            have hg : r.g < H.n := hR.row_lt hget
            cases hs with
            | slice _ _ _ _ cap a0 hg' hle hsm hb =>
             obtain ⟨hnl, hat0⟩ := hb b hbg
             by_cases hfit : q + n ≤ cap
             ·-- there is room
              have hbn : b.nil = false := by
               cases e : b.nil with
               | false => rfl
               | true => have := hnl e; have := this.2 (hl.nr rfl e); omega
              obtain ⟨had, hroom⟩ := hat0 hbn
              have had := had (by omega)
              subst had
              have hfree := hl.free rfl hbn
              have hmul : (q + n) * z ≤ cap * z := Nat.mul_le_mul_right _ hfit
              rw [Nat.add_mul] at hmul
              rw [← hsz] at hS
              have hrun := run_append_room_src (P := P) w t u ty e i ht hi b.blk (b.off + r.i) q cap cx n news hS hfit
               (fun k hk' => by
                have := hfree.there (j := r.i + q * z + k) (by omega)
                rw [hsz]
                rwa [show b.off + (r.i + q * z + k) = b.off + r.i + q * z + k from by omega] at this)
               (fun k hk' => by
                have := hfree.2 (r.i + q * z + k) (by omega)
                rw [hsz]
                rwa [show b.off + (r.i + q * z + k) = b.off + r.i + q * z + k from by omega] at this)
              rw [hsz] at hrun
              have hkill := hR.kill hg
              let b' : Base := ⟨b.blk, b.off + r.i, cap * z, false⟩
              have hsame : ∀ k, k ≠ b.blk → (w.setCells b.blk (b.off + r.i + q * z) news).heap[k]? = w.heap[k]? := fun k hk' => heap_setCells _ _ _ _ hk'
              have hF : Free (w.setCells b.blk (b.off + r.i + q * z) news) b' := by
               obtain ⟨⟨C, eC, fr, hC, hsC⟩, hf⟩ := hfree.setCells (b.off + r.i + q * z) news
               exact ⟨⟨C, eC, fr, hC, by simp only [b']; omega, by simp only [b']; have := hsC.2; omega⟩, fun k hk' => by
                have := hf (r.i + k) (by simp only [b'] at hk'; omega)
                rwa [show b.off + (r.i + k) = b'.off + k from by simp only [b']; omega] at this⟩
              have hKeep : Keeps H.n β (put (put β r.g none) H.n (some b')) := (Keeps.kill _ _ _).trans (Keeps.new _ _ _) (Nat.le_refl _)
              have hL : Lies (H.n + 1) (put (put β r.g none) H.n (some b')) (w.setCells b.blk (b.off + r.i + q * z) news) (old.list ++ new.list) false b' := by
               constructor
               ·intro k y hy
                by_cases hk1 : k < q * z
                ·rw [List.getElem?_append_left (by omega)] at hy
                 obtain ⟨c, hc1, hr1⟩ := hvr.at k y hy
                 have hcell := hvc k c hc1
                 rw [place_add] at hcell
                 refine ⟨c, ?_, hr1.mono (by omega) hKeep⟩
                 rw [World.cell?_setCells_out _ _ _ _ _ (fun _ _ => .inl (by simp only [b']; omega))]
                 rwa [show b.off + (r.i + k) = b'.off + k from by simp only [b']; omega] at hcell
                ·rw [List.getElem?_append_right (by omega), holdl] at hy
                 obtain ⟨c, hc1, hr1⟩ := hv.at (k - q * z) y hy
                 have hlt : k - q * z < news.length := (List.getElem?_eq_some_iff.1 hc1).1
                 refine ⟨c, ?_, hr1.mono (by omega) hKeep⟩
                 have := World.cell?_setCells_in b.blk news (b.off + r.i + q * z) w (fun k' hk' => by
                  have := hfree.there (j := r.i + q * z + k') (by omega)
                  rwa [show b.off + (r.i + q * z + k') = b.off + r.i + q * z + k' from by omega] at this) (k - q * z) hlt
                 rw [List.getElem?_eq_getElem hlt] at hc1
                 rw [show b'.off + k = b.off + r.i + q * z + (k - q * z) from by simp only [b']; omega]
                 rw [this]
                 exact hc1
               ·exact fun k y hy => List.all_eq_true.1 hplain y (List.mem_of_getElem? hy)
               ·rw [List.length_append, holdl]; simp only [b']; omega
               ·intro hn; simp [b'] at hn
               ·intro _ hn; simp [b'] at hn
               ·intro _; rw [size_setCells]; exact hl.blk hbn
               ·exact fun _ _ => hF
              have hmut : Mut β H b.blk := ⟨r.g, b, _, _, hbg, hget, hbn, rfl⟩
              have hRel := hkill.push (w' := w.setCells b.blk (b.off + r.i + q * z) news) b' hrow (fun g' b2 hb2 hn2 => by
                by_cases e' : g' = r.g
                ·subst e'; rw [put_same] at hb2; cases hb2
                ·rw [put_ne _ _ _ _ e'] at hb2
                 exact (hR.apart r.g g' b b2 _ _ (Ne.symm e') hbg hb2 hget hbn hn2).symm) (fun p c hc => hR.immm _ _ _ hc hmut) (fun k _ hk' => hsame k hk') (by simpa using hL.like hlike) (((hR.typ _ _ _ _ hbg hget).setCells rfl (b.off + r.i + q * z) news).low (elem_lt he) fun _ => ⟨hbn, rfl⟩)
              have hLe := Le.take (b' := b') hR (joinRow old new e) hbg hget (.inl ⟨hbn, rfl⟩) (World.os_setCells w b.blk (b.off + r.i + q * z) news) (tape_setCells _ _ _) (World.output_setCells ..) (by rw [size_setCells]; exact Nat.le_refl _) (fun k _ hk' => hsame k (hk' hbn))
              refine ⟨_, _, _, hRel, hLe, hrun, ?_⟩
              refine .slice _ _ _ _ _ _ (by simp) (by omega) (by simp) fun b2 hb2 => ?_
              simp only [Heap.n_set] at hb2
              rw [put_same] at hb2
              cases hb2
              exact ⟨fun hn => by simp [b'] at hn, fun _ => ⟨fun _ => by simp [b', Ref.i], by simp [b', Ref.i]⟩⟩
             ·-- it grows
              rw [← hsz] at hS
              have hholdC : (Builtin.firstCells i.size q (.slice a0 q cap)).run P w.drew = .ok vs.toArray w.drew := by
               rw [hsz]
               by_cases hq : 0 < cap
               ·have hbn : b.nil = false := by
                 cases e : b.nil with
                 | false => rfl
                 | true => have := hnl e; have := this.2 (hl.nr rfl e); omega
                have had := (hat0 hbn).1 hq
                subst had
                exact run_firstCells_some (P := P) w.drew z q _ q cap vs hvl (by simpa using hvc)
               ·have hq0 : q = 0 := by omega
                subst hq0
                have : vs = [] := List.eq_nil_of_length_eq_zero (by omega)
                subst this
                cases a0 <;> simp [Builtin.firstCells, loadCells, loadCellsFrom]
              have hrun := run_append_grow_src (P := P) w t u ty e i zc ht hi hzz a0 q cap vs hholdC cx n news hS (by omega) (by omega) (growslice_fits (by omega) (by rw [hby]; exact hc.1))
              have hcap := grownCap_le w (q + n) cap e
              generalize hC : ((vs ++ news).toArray ++ Builtin.zeroCells zc.cells (grownCap w (q + n) cap e - (q + n))) = C at hrun
              have hCl : C.toList = (vs ++ news) ++ (Builtin.zeroCells zc.cells (grownCap w (q + n) cap e - (q + n))).toList := by rw [← hC]; simp
              have hCs : C.size = (q + n) * z + (grownCap w (q + n) cap e - (q + n)) * z := by
               have e1 : C.size = C.toList.length := by simp
               have e2 : ze.cells.length = z := by omega
               rw [e1, hCl, List.length_append, List.length_append, hvl, hS', Array.length_toList, zeroCells_size, ← hzl, e2, ← Nat.add_mul]
              have hvv := hvr.append hv
              have hvvl := hvv.length
              have htk : VsRel H.n β (old.list ++ new.list) (C.toList.take (old.list ++ new.list).length) := by rw [hCl, List.take_append_of_le_length (by omega), List.take_of_length_le (by omega)]; exact hvv
              have hkill := hR.kill hg
              have hat : (w.drew.alloc (.cells C e)).heap[w.heap.size]? = some (.cells C e) := heap_alloc_at w.drew _
              have hlt : ∀ k, k < w.heap.size → (w.drew.alloc (.cells C e)).heap[k]? = w.heap[k]? := fun k hk' => heap_alloc_lt w.drew _ k hk'
              have hKeep : Keeps H.n β (put (put β r.g none) H.n (some ⟨w.heap.size, 0, C.size, false⟩)) := (Keeps.kill _ _ _).trans (Keeps.new _ _ _) (Nat.le_refl _)
              have hRel := hkill.push (w' := w.drew.alloc (.cells C e)) ⟨w.heap.size, 0, C.size, false⟩ hrow (fun g' b2 hb2 hn2 => by
                have := hkill.blk_lt hb2 hn2; simp; omega) (fun p c hc => by have := hR.imm_lt hc; simp at this) (fun k hk' _ => hlt k hk') (by
                have := Lies.new (N := H.n + 1) (β := put (put β r.g none) H.n (some ⟨w.heap.size, 0, C.size, false⟩)) (w' := w.drew.alloc (.cells C e)) (htk.mono (by omega) hKeep) hplain (by
                 have e1 : C.size = C.toList.length := by simp
                 have e2 := congrArg List.length hCl
                 simp only [List.length_append] at e2 hvvl
                 simp only [List.length_append]
                 omega) w.heap.size hat (by simp)
                simpa using this.like hlike) (fun _ => ⟨C, _, by rw [unT_lt (elem_lt he)]; exact hat, fun hk => ⟨rfl, (ty_low (elem_lt he)).2 hk⟩⟩)
              have hLe := Le.take (w' := w.drew.alloc (.cells C e)) (b' := ⟨w.heap.size, 0, C.size, false⟩) hR (joinRow old new e) hbg hget (.inr (Nat.le_refl _)) rfl rfl rfl (by simp) (fun k hk' _ => hlt k hk')
              refine ⟨_, _, _, hRel, hLe, hrun, ?_⟩
              refine .slice _ _ _ _ _ _ (by simp) (by omega) (by simp) fun b2 hb2 => ?_
              simp only [Heap.n_set] at hb2
              rw [put_same] at hb2
              cases hb2
              refine ⟨fun hn => (by cases hn), fun _ => ⟨fun _ => by simp [Ref.i], ?_⟩⟩
              simp only [Ref.i, Nat.zero_mul, Nat.zero_add]
              rw [hCs, ← Nat.add_mul]
              exact Nat.mul_le_mul_right _ (by omega)
           ·cases h
          ·cases h
         ·cases h
        ·cases h
  ·cases h
end mem
end Go.Vx
end
section
set_option linter.unusedVariables false
set_option linter.unusedSimpArgs false
namespace Go.Vx
section mem
variable {P : Program} {o : Oper} {a : Act} {β : At} {H : Heap} {w : World} {m : Tm}
theorem map_some {α γ : Type} {f : α → γ} {x : Option α} {g : γ} (h : x.map f = some g) : ∃ v, x = some v ∧ f v = g := by
 cases x with
 | none => cases h
 | some v => cases h; exact ⟨v, rfl, rfl⟩
theorem isU8_of {e : TypeId} (h : isU8 P e = true) : P.underlying e = some (.int .u8) := by
 unfold isU8 at h
 split at h
 ·assumption
 ·cases h
theorem isU8_lt {e : TypeId} (h : isU8 P e = true) : Nat.blt e KT = true := by
 unfold isU8 at h
 split at h
 ·exact h
 ·cases h
theorem strOf_rel {N : Nat} : ∀ {l : List AV} {s : List UInt8} {vs : List Value}, strOfAV l = some s → VsRel N β l vs → ∃ xs : List Int, vs = xs.map (Value.int .u8) ∧ s = xs.map fun n => UInt8.ofNat n.toNat
 | [], s, vs, h, hv => by cases h; cases hv; exact ⟨[], rfl, rfl⟩
 | x :: l, s, vs, h, hv => by
  cases hv with
  | cons _ c _ cs hx hl =>
   have hx' : ∃ t n, x = .int t .u8 n := by
    cases x with
    | int t k n => cases k <;> simp only [strOfAV] at h <;> first | exact ⟨t, n, rfl⟩ | cases h
    | _ => simp only [strOfAV] at h; cases h
   obtain ⟨t, n, rfl⟩ := hx'
   simp only [strOfAV] at h
   split at h
   ·rename_i s' hs'
    cases h
    obtain ⟨xs, rfl, rfl⟩ := strOf_rel hs' hl
    exact ⟨n :: xs, by rw [int_of hx]; rfl, rfl⟩
   ·cases h
theorem strOf_bytes : ∀ l : List UInt8, strOfAV (bytesAV true l) = some l
 | [] => rfl
 | n :: l => by
  have := strOf_bytes l
  simp only [bytesAV, List.map_cons, strOfAV] at this ⊢
  rw [this]
  simp
theorem encL_u8 : ∀ l : List Int, encL (.int .u8) l = l.map (.int true .u8)
 | [] => rfl
 | n :: l => congrArg (AV.int true .u8 n :: ·) (encL_u8 l)
theorem strOf_ints : ∀ l : List Int, strOfAV (l.map (.int true .u8)) = some (l.map fun n => UInt8.ofNat n.toNat)
 | [] => rfl
 | n :: l => by simp only [List.map_cons, strOfAV, strOf_ints l]
theorem strOf_lot {L : Lot} {t : Bool} {s : List UInt8} (h : strOfSrc L = some (t, s)) : strOfAV L.list = some s := by
 unfold strOfSrc at h
 split at h
 ·rename_i l
  simp only [Option.some.injEq, Prod.mk.injEq] at h
  obtain ⟨_, rfl⟩ := h
  simp only [Lot.list]
  rw [encL_byte]
  exact strOf_bytes l
 ·rename_i l
  simp only [Option.some.injEq, Prod.mk.injEq] at h
  obtain ⟨_, rfl⟩ := h
  simp only [Lot.list]
  rw [encL_u8]
  exact strOf_ints l
 ·rename_i l
  simp only [Lot.list]
  cases hl : strOfAV l with
  | none => rw [hl] at h; cases h
  | some x => rw [hl] at h; simp only [Option.map_some, Option.some.injEq, Prod.mk.injEq] at h; rw [h.2]
 ·cases h
theorem mut_row {o : AObj} (h : o.mut = true) : ∃ cs e, o.row = some (cs, e, false) := by
 cases o with
 | dead => cases h
 | cells cs e ro => cases ro with
  | false => exact ⟨cs, e, rfl⟩
  | true => cases h
 | vec t l e ro => cases ro with
  | false => exact ⟨_, e, rfl⟩
  | true => cases h
 | fro t l e => cases h
theorem mark_ok (P : Program) {N : Nat} {cs : List AV} {b : Base} (hl : Lies N β w cs false b) (hbn : b.nil = false) :
  ∃ w', (∀ o s, (markStringish ⟨b.blk, o, s⟩).run P w = .ok () w') ∧ w'.os = w.os ∧ w'.tape = w.tape ∧ w'.output = w.output ∧ w'.heap.size = w.heap.size ∧ (∀ k, k ≠ b.blk → w'.heap[k]? = w.heap[k]?) ∧ Lies N β w' cs false b ∧ ∀ cs1 e1, TypOk w b cs1 e1 → TypOk w' b cs1 e1 := by
 obtain ⟨⟨C, e, fr, hC, hs, hz⟩, hf⟩ := hl.free rfl hbn
 have hsh : w.shape? b.blk = some (e, C.size) := by unfold World.shape?; rw [hC]
 have hne : ∀ k, k ≠ b.blk → (w.freeze ⟨b.blk, C.size, none⟩ 1).heap[k]? = w.heap[k]? := fun k hk => by
  simp [World.freeze, Array.getElem?_modify, Ne.symm hk]
 have hat : ∃ fr', (w.freeze ⟨b.blk, C.size, none⟩ 1).heap[b.blk]? = some (.cells C e fr') ∧ (fr'.1 = fr'.2 ∨ b.off + b.room ≤ fr'.1) := by
  obtain ⟨lo, hi⟩ := fr
  refine ⟨_, by simp [World.freeze, Array.getElem?_modify, hC]; rfl, ?_⟩
  simp only at hz ⊢
  split
  ·right; simpa using hs
  ·rename_i hlh
   right
   have hlh : lo ≠ hi := by simpa using hlh
   show b.off + b.room ≤ min lo C.size
   omega
 obtain ⟨fr', hat, hz'⟩ := hat
 have hcell : ∀ k, (w.freeze ⟨b.blk, C.size, none⟩ 1).cell? ⟨b.blk, k, none⟩ = w.cell? ⟨b.blk, k, none⟩ := fun k => by
  simp only [World.cell?, hat, hC]
 refine ⟨w.freeze ⟨b.blk, C.size, none⟩ 1, fun o s => ?_, ?_, ?_, ?_, ?_, hne, ?_⟩
 ·simp [markStringish, hsh]
 ·simp [World.freeze]
 ·simp [World.freeze]
 ·simp [World.freeze]
 ·simp [World.freeze]
 ·refine ⟨?_, fun cs1 e1 ht hn => ?_⟩
  rotate_left
  ·obtain ⟨C1, fr1, h1, h2⟩ := ht hn
   rw [hC] at h1
   cases h1
   exact ⟨C, fr', hat, h2⟩
  exact
  {cell := fun j v hj => by
    obtain ⟨c, hc, hr⟩ := hl.cell j v hj
    exact ⟨c, by rw [hcell]; exact hc, hr⟩
   plain := hl.plain
   room := hl.room
   nl := hl.nl
   nr := hl.nr
   blk := fun hn => by have := hl.blk hn; simp [World.freeze]; exact this
   free := fun _ _ => ⟨⟨C, e, fr', hat, hs, hz'⟩, fun j hj => by
    obtain ⟨lo, hi⟩ := fr'
    simp only [World.frozen?, hat]
    simp at hz' ⊢
    omega⟩ }
theorem lonely_spec (hR : Rel β H w) {u : Bool} {r : Ref} {c : Value} {n : Nat} {e : TypeId} (h : lonely H r = some (n, e)) (hx : VRel H.n β (.ptr u (some r)) c) :
  ∃ k, c = .pointer (some ⟨k, 0, none⟩) ∧ w.shape? k = some (e, n) := by
 unfold lonely at h
 split at h
 ·rename_i cs e0 hg
  split at h
  ·rename_i hc
   cases h
   have hrow : H.row r.g = some (cs, e0, false) := by unfold Heap.row; rw [hg]; rfl
   obtain ⟨b, hb⟩ := hR.tot _ _ _ _ hrow
   cases hx with
   | ptr _ _ a hg' ha =>
    obtain ⟨hn, rfl⟩ := ha b hb
    obtain ⟨C, fr, hC, hk⟩ := hR.typ _ _ _ _ hb hrow hn
    obtain ⟨h0, hl⟩ := hk hc.1
    refine ⟨b.blk, by rw [h0, hc.2], ?_⟩
    unfold World.shape?
    rw [hC, ← hl]
  ·cases h
 ·cases h
theorem size_info {t : TypeId} {s : Nat} (h : size? P t = some s) : ∃ j, P.info? t = some j ∧ j.size = s := by
 unfold size? at h
 cases hi : P.info? t with
 | none => rw [hi] at h; cases h
 | some j => rw [hi] at h; exact ⟨j, rfl, by simpa using h⟩
theorem convA_sound (hR : Rel β H w) {src dst : TypeId} {x v : AV} {c : Value} (hx : VRel H.n β x c) {H' : Heap} (h : convA P src dst x H = some (v, H')) :
  ∃ β' w' d, Rel β' H' w' ∧ Le β H w β' H' w' ∧ (convert src dst c).run P w = .ok d w' ∧ VRel H'.n β' v d := by
 unfold convA at h
 split at h
 ·rename_i hs hd
  cases h
  rw [int_of hx]
  exact ⟨β, w, _, hR, Le.refl _ _ _, by simp [convert, run_underlying hs, run_underlying hd, Conv.intToInt], .int _ _ _⟩
 ·rename_i t s hs hd
  cases h
  obtain ⟨b, rfl, hb⟩ := str_of hx
  exact ⟨β, w, .string b, hR, Le.refl _ _ _, by simp [convert, run_underlying hs, run_underlying hd], .str _ _ _ hb⟩
 ·rename_i e t s hs hd
  split at h
  ·rename_i hc
   cases h
   obtain ⟨uu, hsl⟩ := strSrc_list t s
   obtain ⟨L, hrow, hlike0⟩ := join_row (.cells []) (strSrc t s) e
   have hlike : Like (bytesAV uu s) L := by rw [← hsl]; simpa [Lot.list] using hlike0
   obtain ⟨b, rfl, hb⟩ := str_of hx
   have he := isU8_of hc.1
   have hrun := Lib.run_convert_string_bytes (P := P) w src dst e b hs hd he
   have hsize : (Lib.bytesCells w e b).size = grownCap w b.size 0 e := by
    have := grownCap_le w b.size 0 e
    simp only [Lib.bytesCells, Array.size_append, Array.size_map, Array.size_replicate]
    show b.size + _ = _
    omega
   have hlen := slen hb
   have htk : VsRel H.n β (bytesAV uu s) ((Lib.bytesCells w e b).toList.take (bytesAV uu s).length) := by
    have e1 : (Lib.bytesCells w e b).toList = byteCells b ++ List.replicate (grownCap w b.size 0 e - b.size) (.int .u8 0) := by simp [Lib.bytesCells, byteCells]
    have e2 : (bytesAV uu s).length = (byteCells b).length := (bytes_rel (N := H.n) (β := β) hb).length
    rw [e1, e2, List.take_left]
    exact bytes_rel hb
   have hcap := grownCap_le w b.size 0 e
   have hall : (bytesAV uu s).all AV.cell = true := by simp [bytesAV, AV.cell]
   have hbl : (bytesAV uu s).length = s.length := by simp [bytesAV]
   let b' : Base := ⟨w.heap.size, 0, (Lib.bytesCells w e b).size, false⟩
   have hlt : ∀ k, k < w.heap.size → (Lib.bytesWorld w e b).heap[k]? = w.heap[k]? := fun k hk => Lib.bytesWorld_at_old w e b k hk
   have hRel := hR.push (w' := Lib.bytesWorld w e b) b' hrow (fun g b2 hb2 hn2 => by have := hR.blk_lt hb2 hn2; simp only [b']; omega) (fun p c hc => by have := hR.imm_lt hc; simp [b'] at this) (fun k hk _ => hlt k hk)
    ((Lies.new (htk.mono (by omega) (Keeps.new _ _ _)) hall (by omega) w.heap.size (Lib.bytesWorld_at_new w e b) (by simp)).like hlike) (fun _ => ⟨_, _, by rw [unT_lt (isU8_lt hc.1)]; exact Lib.bytesWorld_at_new w e b, fun hk => ⟨rfl, (ty_low (isU8_lt hc.1)).2 hk⟩⟩)
   have hLe := Le.alloc (w' := Lib.bytesWorld w e b) hR (by simp [Lib.bytesWorld, World.freeze, World.alloc, World.drew, -World.alloc_eq, -World.drew_eq]) (by simp [Lib.bytesWorld, World.freeze, World.alloc, World.drew, -World.alloc_eq, -World.drew_eq])
    (by simp [Lib.bytesWorld, World.freeze, World.alloc, World.drew, -World.alloc_eq, -World.drew_eq]) (by rw [Lib.bytesWorld_size]; omega) hlt b' (Nat.le_refl _) (joinRow (.cells []) (strSrc t s) e)
   refine ⟨_, _, _, hRel, hLe, hrun, ?_⟩
   rw [← hlen]
   exact slice_new (by omega) (by omega)
  ·cases h
 ·rename_i e t r n sz hs hd
  split at h
  ·rename_i hc
   split at h
   ·rename_i L hL
    cases ho0 : strOfSrc L with
    | none => rw [ho0] at h; cases h
    | some ts =>
     obtain ⟨tt, s⟩ := ts
     rw [ho0] at h
     cases h
     have ho := strOf_lot ho0
     have he := isU8_of hc.1
     cases hx with
     | snil _ _ a0 _ =>
      simp only [sliceSrc] at hL
      cases hL
      cases ho
      refine ⟨β, w, .string ByteArray.empty, hR, Le.refl _ _ _, ?_, .str _ _ _ rfl⟩
      cases a0 <;> simp [convert, run_underlying hs, run_underlying hd, run_underlying he, Conv.bytesToString, loadCells, loadCellsFrom]
     | slice _ r0 _ _ cap a0 hg hle hsm hb =>
      have hcs := sliceSrc_row hL
      rw [Nat.mul_one] at hcs
      obtain ⟨b, cs0, e0, ro, hbg, hget, hl, hle1, hll, vs, hvl, hvc, hvr⟩ := row_read hR hcs
      obtain ⟨xs, rfl, rfl⟩ := strOf_rel ho hvr
      by_cases hn : n = 0
      ·subst hn
       have : xs = [] := by simpa using hvl
       subst this
       refine ⟨β, w, .string ByteArray.empty, hR, Le.refl _ _ _, ?_, .str _ _ _ rfl⟩
       cases a0 <;> simp [convert, run_underlying hs, run_underlying hd, run_underlying he, Conv.bytesToString, loadCells, loadCellsFrom]
      ·obtain ⟨h1, h2⟩ := hb b hbg
       have hbn : b.nil = false := by
        cases e : b.nil with
        | false => rfl
        | true => have := h1 e; omega
       have had := (h2 hbn).1 (by omega)
       subst had
       refine ⟨β, w, _, hR, Le.refl _ _ _, run_convert_bytes_arg w src e hs he b.blk (b.off + r0.i) n cap xs (by simpa using hvl) (fun j hj => ?_) dst hd, .str _ _ _ (strOfNums_data xs)⟩
       have hjl : j < xs.length := by simp at hvl; omega
       have := hvc j (.int .u8 (xs.getD j 0)) (by simp [List.getElem?_map, List.getElem?_eq_getElem hjl, List.getD_eq_getElem?_getD])
       rw [place_add] at this
       rwa [show b.off + (r0.i + j) = b.off + r0.i + j from by omega] at this
   ·cases h
  ·cases h
 ·rename_i e l hs hd
  split at h
  ·rename_i hu
   cases h
   have he := isU8_of hu
   cases hx with
   | vec _ _ cap a0 b o cs hn ha h1 h2 =>
    by_cases hn0 : l.length = 0
    ·have : l = [] := List.eq_nil_of_length_eq_zero hn0
     subst this
     refine ⟨β, w, .string ByteArray.empty, hR, Le.refl _ _ _, ?_, .str _ _ _ rfl⟩
     cases a0 <;> simp [convert, run_underlying hs, run_underlying hd, run_underlying he, Conv.bytesToString, loadCells, loadCellsFrom]
    ·have had := ha.1 (by omega)
     subst had
     have hlen : (encL .byte l).length = l.length := by rw [encL_length]; simp [Ty.z]
     obtain ⟨vs, hvl, hcv, hr⟩ := imm_read hR h1 h2 0 (encL .byte l).length (by omega)
     rw [List.drop_zero, List.take_length] at hr
     have ho : strOfAV (encL .byte l) = some l := by rw [encL_byte]; exact strOf_bytes l
     obtain ⟨xs, rfl, hxs⟩ := strOf_rel ho hr
     refine ⟨β, w, _, hR, Le.refl _ _ _, run_convert_bytes_arg w src e hs he b o l.length cap xs (by simp at hvl; omega) (fun j hj => ?_) dst hd, .str _ _ _ ?_⟩
     ·have hjl : j < xs.length := by simp at hvl; omega
      have := hcv j (.int .u8 (xs.getD j 0)) (by simp [List.getElem?_map, List.getElem?_eq_getElem hjl, List.getD_eq_getElem?_getD])
      have e1 : (⟨b, o + 0, none⟩ : Addr).add j = ⟨b, o + j, none⟩ := by
       unfold Addr.add
       split
       ·rename_i e; simp [e]
       ·simp
      rwa [e1] at this
     ·rw [strOfNums_data xs]; exact hxs.symm
  ·cases h
 ·rename_i e e' t r n sz hs hd
  split at h
  ·rename_i hc
   obtain ⟨rfl, hu, hn1⟩ := hc
   split at h
   ·rename_i o ho
    split at h
    ·rename_i hm
     cases h
     obtain ⟨cs, e0, hrow⟩ := mut_row hm
     have hget : H.row r.g = some (cs, e0, false) := by unfold Heap.row; rw [ho]; exact hrow
     have he := isU8_of hu
     cases hx with
     | slice _ r0 _ _ cap a0 hg hle hsm hb =>
      obtain ⟨b, hbg⟩ := hR.tot _ _ _ _ hget
      obtain ⟨cs1, e1, ro1, hget1, hl⟩ := hR.lies _ _ hbg
      rw [hget] at hget1
      cases hget1
      obtain ⟨h1, h2⟩ := hb b hbg
      have hbn : b.nil = false := by
       cases e : b.nil with
       | false => rfl
       | true => have := h1 e; omega
      have had := (h2 hbn).1 (by omega)
      subst had
      obtain ⟨w', hw, hos, htape, hout, hsize, hbl, hl', hty⟩ := mark_ok P hl hbn
      have hrun : (convert src src (.slice (some ⟨b.blk, b.off + r.i, none⟩) n cap)).run P w = .ok (.slice (some ⟨b.blk, b.off + r.i, none⟩) n cap) w' := by
       have hee : e = e' := by rw [hs] at hd; cases hd; rfl
       subst hee
       simp [convert, run_underlying hs, run_underlying he, hw]
      refine ⟨β, w', _, hR.write hbg hget hbn hbl hrow hl' (hty _ _ (hR.typ _ _ _ _ hbg hget)), Le.write _ hbg hget hbn hos htape hout hsize hbl, hrun, ?_⟩
      exact .slice _ _ _ _ _ _ hg hle hsm hb
    ·cases h
   ·cases h
  ·cases h
 ·rename_i t u r hs hd
  split at h
  ·rename_i n e0 s hl hsz
   split at h
   ·rename_i hc
    cases h
    obtain ⟨k, rfl, hsh⟩ := lonely_spec hR hl hx
    obtain ⟨j, hj, hjs⟩ := size_info hsz
    exact ⟨β, w, _, hR, Le.refl _ _ _, Lib.run_to_unsafe w ⟨k, 0, none⟩ hs hd hj (by rw [hjs]; exact hc.2) hsh hc.1, hx⟩
   ·cases h
  ·cases h
 ·rename_i t u r hs hd
  split at h
  ·rename_i n e0 s hl hsz
   split at h
   ·rename_i hc
    cases h
    obtain ⟨k, rfl, hsh⟩ := lonely_spec hR hl hx
    obtain ⟨j, hj, hjs⟩ := size_info hsz
    exact ⟨β, w, _, hR, Le.refl _ _ _, Lib.run_from_unsafe w ⟨k, 0, none⟩ hs hd hj hsh hc, hx⟩
   ·cases h
  ·cases h
 ·cases h
theorem lenA_sound {N : Nat} {t ty : TypeId} {ts : List TypeId} {x v : AV} {c : Value} (hx : VRel N β x c) (h : lenA P t x = some v) (w : World) : ∃ d, (Builtin.len_ (t :: ts).toArray ty #[c]).run P w = .ok d w ∧ VRel N β v d := by
 unfold lenA at h
 split at h
 ·rename_i s hu
  cases h
  obtain ⟨b, rfl, hb⟩ := str_of hx
  refine ⟨.int .i64 b.size, by simp [Builtin.len_, run_underlying hu, goInt], ?_⟩
  rw [slen hb]
  exact .int _ _ _
 ·rename_i e tt r n sz hu
  cases h
  cases hx with
  | snil => exact ⟨.int .i64 0, by simp [Builtin.len_, run_underlying hu, goInt], .int _ _ _⟩
  | slice _ _ _ _ cap ad hg hle hsm hb => exact ⟨.int .i64 n, by simp [Builtin.len_, run_underlying hu, goInt], .int _ _ _⟩
 ·rename_i e tt l hu
  cases h
  cases hx with
  | vec => exact ⟨.int .i64 l.length, by simp [Builtin.len_, run_underlying hu, goInt], .int _ _ _⟩
 ·rename_i x1 n e hu
  cases h
  exact ⟨.int .i64 n, by simp [Builtin.len_, run_underlying hu, goInt], .int _ _ _⟩
 ·cases h
theorem fold_sound {N : Nat} {f : AV → AV → Option AV} {g : Value → Value → Sem Value} (hfg : ∀ {x y v : AV} {p q : Value}, VRel N β x p → VRel N β y q → f x y = some v → ∀ w, ∃ d, (g p q).run P w = .ok d w ∧ VRel N β v d) :
  ∀ {l : List AV} {cs : List Value} {x v : AV} {c : Value}, VRel N β x c → VsRel N β l cs → foldA f x l = some v → ∀ w : World, ∃ d, (cs.foldlM g c).run P w = .ok d w ∧ VRel N β v d
 | [], cs, x, v, c, hx, hl, h, w => by cases hl; cases h; exact ⟨c, by simp, hx⟩
 | y :: l, cs, x, v, c, hx, hl, h, w => by
  cases hl with
  | cons _ d _ ds hy hl =>
   simp only [foldA] at h
   split at h
   ·rename_i z hz
    obtain ⟨e, he, hv⟩ := hfg hx hy hz w
    obtain ⟨r, hr, hrv⟩ := fold_sound hfg hv hl h w
    exact ⟨r, by simp only [List.foldlM_cons, Sem.run_bind, he, Result.andThen_ok, hr], hrv⟩
   ·cases h
theorem max2_sound {N : Nat} {x y v : AV} {p q : Value} (hx : VRel N β x p) (hy : VRel N β y q) (h : max2A x y = some v) (w : World) : ∃ d, (Builtin.max2 p q).run P w = .ok d w ∧ VRel N β v d := by
 unfold max2A at h
 split at h
 ·cases h; rw [int_of hx, int_of hy]; exact ⟨_, rfl, .int _ _ _⟩
 ·cases h
theorem min2_sound {N : Nat} {x y v : AV} {p q : Value} (hx : VRel N β x p) (hy : VRel N β y q) (h : min2A x y = some v) (w : World) : ∃ d, (Builtin.min2 p q).run P w = .ok d w ∧ VRel N β v d := by
 unfold min2A at h
 split at h
 ·cases h; rw [int_of hx, int_of hy]; exact ⟨_, rfl, .int _ _ _⟩
 ·cases h
theorem lies_bytes {e : TypeId} (hc : P.cellsOf e = 1) (count off n : Nat) (hn : off + n ≤ count) : liesAt P P.depth e count off e n = true := by
 have hd : P.depth = (2 * (P.types.size + Made.depth) + 1) + 1 := rfl
 have hs : sameLayout P P.depth e e = true := by rw [hd]; simp [sameLayout]
 rw [hd]
 simp only [liesAt, Bool.or_eq_true]
 left
 show (if P.cellsOf e = 0 then false else ((off % P.cellsOf e == 0 && decide (off / P.cellsOf e + n ≤ count) && sameLayout P P.depth e e) || _)) = true
 rw [hc, if_neg (by decide), hs]
 simp [Nat.mod_one, hn]
theorem run_rawStr (w : World) (pt it ty e : TypeId) (hp : P.underlying pt = some (.pointer e)) (hc : P.cellsOf e = 1) (g o cells : Nat) (hsh : w.shape? g = some (e, cells)) (l : List UInt8) (h0 : l ≠ []) (hn : o + l.length ≤ cells) (h63 : l.length ≤ 9223372036854775807)
  (hcell : ∀ j x, l[j]? = some x → w.cell? ((⟨g, o, none⟩ : Addr).add j) = some (.int .u8 x.toNat)) :
  (Builtin.unsafeString_ #[pt, it] ty #[.pointer (some ⟨g, o, none⟩), .int .i64 l.length]).run P w = .ok (.string ⟨l.toArray⟩) (w.freeze ⟨g, o, none⟩ l.length) := by
 have hl : l.length ≠ 0 := by simpa using h0
 have hlb := Lib.run_loadBytes (P := P) w l ⟨g, o, none⟩ .empty hcell
 have hlies := lies_bytes (P := P) hc (cells / P.cellsOf e) o l.length (by rw [hc]; simpa using hn)
 have h63' : ¬ (9223372036854775807 : Int) < (l.length : Int) := by omega
 have hmax : IntKind.i64.max = 9223372036854775807 := rfl
 have hneg : ¬ (l.length : Int) < 0 := by omega
 change Sem.run P (asInt (.int .i64 l.length) >>= _) w = _
 simp [asInt, asIntOf, hmax, h63', hneg, hl, variablesAt, hsh, elemOf, run_underlying hp, hlies, hlb]
theorem rawStr_sound (hR : Rel β H w) {pt it ty : TypeId} {u t : Bool} {r : Option Ref} {n : Int} {v : AV} {c : Value} {H' : Heap} (hx : VRel H.n β (.ptr u r) c) (h : rawStr P pt r n H = some (v, H')) :
  ∃ β' w' d, Rel β' H' w' ∧ Le β H w β' H' w' ∧ (Builtin.unsafeString_ #[pt, it] ty #[c, .int .i64 n]).run P w = .ok d w' ∧ VRel H'.n β' v d := by
 unfold rawStr at h
 split at h
 ·split at h
  ·rename_i hn
   cases h
   subst hn
   cases hx
   exact ⟨β, w, _, hR, Le.refl _ _ _, Lib.run_unsafeString_none w _ _ _ _, .str _ _ _ rfl⟩
  ·cases h
 ·rename_i r
  split at h
  ·rename_i e hp
   split at h
   ·rename_i hc
    obtain ⟨hu, hc1, hz, ho⟩ := hc
    split at h
    ·rename_i l e' hg
     split at h
     ·rename_i hk
      cases h
      obtain ⟨rfl, hn0, hle, hmx⟩ := hk
      have hrow : H.row r.g = some (encL .byte l, e', false) := by unfold Heap.row; rw [hg]; rfl
      obtain ⟨b, hb⟩ := hR.tot _ _ _ _ hrow
      obtain ⟨cs1, e1, ro1, hrow1, hl⟩ := hR.lies _ _ hb
      rw [hrow] at hrow1
      cases hrow1
      cases hx with
      | ptr _ _ a hg' ha =>
       obtain ⟨hbn, rfl⟩ := ha b hb
       obtain ⟨C, fr, hC, _⟩ := hR.typ _ _ _ _ hb hrow hbn
       rw [unT_lt (isU8_lt hu)] at hC
       have hri : r.i = r.e := by unfold Ref.i; rw [hz, ho]; omega
       have hfree := hl.free rfl hbn
       have hroom := hl.room
       have hel : (encL .byte l).length = l.length := by rw [encL_length]; simp [Ty.z]
       obtain ⟨⟨C1, eC1, fr1, hC1, hsC1, _⟩, _⟩ := hfree
       rw [hC] at hC1
       cases hC1
       obtain ⟨m, rfl⟩ := Int.eq_ofNat_of_zero_le (show (0 : Int) ≤ n by omega)
       rw [Int.toNat_natCast] at hle
       have hml : ((l.drop r.e).take m).length = m := by simp; omega
       have hrun := run_rawStr (P := P) w pt it ty e' hp hc1 b.blk (b.off + r.i) C.size (by unfold World.shape?; rw [hC]) ((l.drop r.e).take m) (by intro h0; rw [h0] at hml; simp at hml; omega) (by rw [hml, hri]; omega) (by rw [hml]; omega) (fun j x hj => by
        have hj' : l[r.e + j]? = some x := by
         rw [List.getElem?_take] at hj
         split at hj
         ·rw [List.getElem?_drop] at hj; exact hj
         ·cases hj
        have he : (encL .byte l)[r.e + j]? = some (.int true .u8 (x.toNat : Int)) := by
         rw [encL_byte]
         simp [bytesAV, hj']
        obtain ⟨c, hc, hr⟩ := hl.cell _ _ he
        cases hr
        have e0 : (⟨b.blk, b.off + r.i, none⟩ : Addr).add j = ⟨b.blk, b.off + (r.e + j), none⟩ := by rw [place_add, hri]
        rw [e0]
        exact hc)
       rw [hml] at hrun
       obtain ⟨β', hM⟩ := hR.freeze hrow .byte l e' rfl (fun b' hb' j v hv => by
        rw [hb] at hb'
        cases hb'
        exact hl.cell j v hv)
       have hmut : Mut β H b.blk := ⟨r.g, b, _, _, hb, hrow, hbn, rfl⟩
       have hnm : ¬ Mut β' (H.set r.g (.fro .byte l e')) b.blk := by
        rintro ⟨i, b1, c1, e1, hb1, hi, hn1, hk1⟩
        rw [hM.base] at hb1
        by_cases hne : i = r.g
        ·subst hne
         rw [Heap.row_set, if_pos rfl] at hi
         cases hi
        ·rw [Heap.row_set, if_neg hne] at hi
         exact hR.apart i r.g b1 b c1 e1 hne hb1 hb hi hn1 hbn hk1
       exact ⟨β', _, _, hM.rel.ice hnm _ _, hM.le.ice hmut _ _, hrun, .str _ _ _ rfl⟩
     ·cases h
    ·cases h
   ·cases h
  ·cases h
theorem zeros_like {ty : Ty} {z : List AV} {d : ty.den} (h : Like z (enc ty d)) : ∀ n : Nat, Like (zerosA z n) (encL ty (List.replicate n d))
 | 0 => Like.nil
 | n + 1 => by
  have : encL ty (List.replicate (n + 1) d) = enc ty d ++ encL ty (List.replicate n d) := by simp [encL, List.replicate_succ]
  rw [this]
  exact h.append (zeros_like h n)
theorem clear_sound (hR : Rel β H w) {t ty0 : TypeId} {u : Bool} {r : Ref} {n z : Nat} {c : Value} {H' : Heap} (hx : VRel H.n β (.slice u (some r) n z) c) (h : clearA P t r n z H = some H') :
  ∃ w', Rel β H' w' ∧ Le β H w β H' w' ∧ (Builtin.clear_ #[t] ty0 #[c]).run P w = .ok (.tuple #[]) w' := by
 unfold clearA at h
 split at h
 ·cases h
 ·rename_i e hse
  split at h
  ·rename_i s ze hs hze
   split at h
   ·rename_i hk
    obtain ⟨rfl, h0, hzl, hall, hrz, hro⟩ := hk
    split at h
    ·rename_i ty l e' hg
     split at h
     ·rename_i d hd
      split at h
      ·rename_i hn
       cases h
       have hu := elem_of hse
       have hrow : H.row r.g = some (encL ty l, e', false) := by unfold Heap.row; rw [hg]; rfl
       obtain ⟨b, hb⟩ := hR.tot _ _ _ _ hrow
       obtain ⟨cs1, e1, ro1, hrow1, hl⟩ := hR.lies _ _ hb
       rw [hrow] at hrow1
       cases hrow1
       have hlk := dec1_like hd
       have htz : ty.z = s := by have := hlk.1; rw [enc_length] at this; omega
       have hel : (encL ty l).length = l.length * s := by rw [encL_length, htz]
       have hpos : 0 < l.length * s := Nat.mul_pos (by omega) (by omega)
       have hbn : b.nil = false := by
        cases e : b.nil with
        | false => rfl
        | true => have := hl.nl e; rw [this] at hel; simp at hel; omega
       cases hx with
       | slice _ _ _ _ cap a0 hg' hle hsm hsl =>
        obtain ⟨_, h2⟩ := hsl b hb
        have had := (h2 hbn).1 (by omega)
        subst had
        obtain ⟨zc, hzr, hzv⟩ := zero_sound (N := H.n) (β := β) hze w
        have hzlen := hzv.cells.length
        simp only [Array.length_toList] at hzlen
        have hzs := zeros_sound hzv.cells (by omega) n (n * zc.cells.size) (by rw [hzlen]; exact Nat.le_refl _)
        have hzs' : VsRel H.n β (zerosA ze.cells n) (Builtin.zeroCells zc.cells n).toList := by
         have e0 : (Builtin.zeroCells zc.cells n) = madeCells zc.cells (n * zc.cells.size) := rfl
         rw [e0]
         rw [List.take_of_length_le (by rw [zeros_length, Array.length_toList, size_madeCells, hzlen]; exact Nat.le_refl _)] at hzs
         exact hzs
        have hza := zeros_all hall n
        have hzn : (zerosA ze.cells n).length = n * s := by rw [zeros_length, hzl]
        have hri : r.i = r.e * s := by unfold Ref.i; rw [hrz, hro]; omega
        have hmul : r.e * s + n * s ≤ l.length * s := by rw [← Nat.add_mul]; exact Nat.mul_le_mul_right _ hn.2
        have hone := one_of_plain hzs' hza
        have hfree := hl.free rfl hbn
        have hroom := hl.room
        have hdl := hzs'.length
        have hrun := run_storeCells_cells (P := P) b.blk (b.off + r.i) (Builtin.zeroCells zc.cells n).toList 0 w
         (fun j hj => by
          have := hfree.there (j := r.i + j) (by omega)
          rwa [show b.off + (r.i + j) = b.off + r.i + 0 + j from by omega] at this)
         (fun j hj => by
          have := hfree.2 (r.i + j) (by omega)
          rwa [show b.off + (r.i + j) = b.off + r.i + 0 + j from by omega] at this) hone
        have hsplice : Like (splice (encL ty l) r.i (zerosA ze.cells n)) (encL ty (l.take r.e ++ List.replicate n d ++ l.drop (r.e + n))) := by
         unfold splice
         have q1 : (encL ty l).take r.i = encL ty (l.take r.e) := by rw [encL_take, htz, hri]
         have q2 : (encL ty l).drop (r.i + (zerosA ze.cells n).length) = encL ty (l.drop (r.e + n)) := by rw [encL_drop, htz, hri, hzn, Nat.add_mul]
         rw [q1, q2, encL_append, encL_append]
         exact ((Like.refl _).append (zeros_like hlk n)).append (Like.refl _)
        refine ⟨w.setCells b.blk (b.off + r.i) (Builtin.zeroCells zc.cells n).toList, hR.write hb hrow hbn (fun k hk => heap_setCells _ _ _ _ hk) rfl ((hl.write hbn hzs' hza (by omega)).like hsplice) ((hR.typ _ _ _ _ hb hrow).setCells (by rw [hsplice.1]; unfold splice; simp only [List.length_append, List.length_take, List.length_drop]; omega) _ _),
         Le.write _ hb hrow hbn (World.os_setCells ..) (tape_setCells ..) (World.output_setCells ..) (size_setCells ..) (fun k hk => heap_setCells _ _ _ _ hk), ?_⟩
        obtain ⟨m, rfl⟩ : ∃ m, n = m + 1 := ⟨n - 1, by omega⟩
        simp only [Builtin.clear_, Sem.run_bind, run_underlying hu, Result.andThen_ok, hzr, Sem.run_pure, List.getElem?_toArray, List.getElem?_cons_zero]
        rw [Nat.add_zero] at hrun
        simp [run_underlying hu, hzr, hrun]
      ·cases h
     ·cases h
    ·cases h
   ·cases h
  ·cases h
theorem fits_builtin (hR : Rel β H w) (hT : TRel H.n β m a.tmps) {c : Call} {b : Builtin} {args : List AV} {v : AV} {H' : Heap} (ho : o.op = .call c) (hb : c.callee = .builtin b) (hargs : opnds m c.args.toList = some args)
  (h : builtinA P b c.argTypes.toList args H = some (.val v H')) : Fits P o a β H w v H' := by
 have hv := opnds_sound hT hargs
 obtain ⟨consts, hexec⟩ : ∃ cs : Array Bool, ∀ w, (execOp a.eval o).run P w = (builtin b c.argTypes o.type cs (c.args.map a.eval)).run P w := by
  have hres : ∃ cs, resolve a.eval c o.type = pure { target := .builtin b c.argTypes o.type cs, args := c.args.map a.eval } := by
   unfold resolve
   rw [hb]
   exact ⟨_, rfl⟩
  obtain ⟨cs, hres⟩ := hres
  exact ⟨cs, fun w => by simp only [execOp, ho, hres, invoke, Sem.run_bind, Sem.run_pure, Result.andThen_ok]⟩
 unfold builtinA at h
 split at h
 ·rename_i t ts x hts
  cases hl : lenA P t x with
  | none => rw [hl] at h; cases h
  | some u =>
   rw [hl] at h
   cases h
   cases hv' : c.args.toList.map a.eval with
   | nil => rw [hv'] at hv; cases hv
   | cons d ds =>
    rw [hv'] at hv
    cases hv with
    | cons _ _ _ _ hd hds =>
     cases hds
     obtain ⟨r, hr, hrv⟩ := lenA_sound (P := P) (t := t) (ts := ts) (ty := o.type) hd hl w
     refine Fits.same hR (c := r) ?_ hrv
     rw [hexec]
     have e1 : c.args.map a.eval = #[d] := by apply Array.toList_inj.1; rw [Array.toList_map, hv']
     have e2 : c.argTypes = (t :: ts).toArray := by apply Array.toList_inj.1; rw [hts]
     rw [e1, e2]
     exact run_v hr
 ·rename_i ts x l
  cases hl : foldA max2A x l with
  | none => rw [hl] at h; cases h
  | some u =>
   rw [hl] at h
   cases h
   cases hv' : c.args.toList.map a.eval with
   | nil => rw [hv'] at hv; cases hv
   | cons d ds =>
    rw [hv'] at hv
    cases hv with
    | cons _ _ _ _ hd hds =>
     obtain ⟨r, hr, hrv⟩ := fold_sound (P := P) (fun hx hy h w => max2_sound hx hy h w) hd hds hl w
     refine Fits.same hR (c := r) ?_ hrv
     rw [hexec]
     refine run_v (s := Builtin.max_ _ _ _) ?_
     have e1 : (c.args.map a.eval).toList = d :: ds := by rw [Array.toList_map, hv']
     unfold Builtin.max_
     rw [e1]
     exact hr
 ·rename_i ts x l
  cases hl : foldA min2A x l with
  | none => rw [hl] at h; cases h
  | some u =>
   rw [hl] at h
   cases h
   cases hv' : c.args.toList.map a.eval with
   | nil => rw [hv'] at hv; cases hv
   | cons d ds =>
    rw [hv'] at hv
    cases hv with
    | cons _ _ _ _ hd hds =>
     obtain ⟨r, hr, hrv⟩ := fold_sound (P := P) (fun hx hy h w => min2_sound hx hy h w) hd hds hl w
     refine Fits.same hR (c := r) ?_ hrv
     rw [hexec]
     refine run_v (s := Builtin.min_ _ _ _) ?_
     have e1 : (c.args.map a.eval).toList = d :: ds := by rw [Array.toList_map, hv']
     unfold Builtin.min_
     rw [e1]
     exact hr
 ·rename_i t u s x hts
  split at h
  ·rename_i hk
   cases hl : appendA P t s x H with
   | none => rw [hl] at h; cases h
   | some r =>
    rw [hl] at h
    obtain ⟨r1, r2⟩ := r
    cases h
    cases hv' : c.args.toList.map a.eval with
    | nil => rw [hv'] at hv; cases hv
    | cons d ds =>
     rw [hv'] at hv
     cases hv with
     | cons _ _ _ _ hd hds =>
      cases hds with
      | cons _ d2 _ _ hd2 hds2 =>
       cases hds2
       have hu : kindOf P u = 3 ∨ kindOf P u = 7 := by
        cases x <;> simp [srcKind] at hk <;> simp [hk]
       have hkk : (kindOf P u = 7 → ∃ tt q, x = .str tt q) ∧ (kindOf P u = 3 → (∃ tt r q z, x = .slice tt r q z) ∨ ∃ t l, x = .vec t l) := by
        cases x <;> simp [srcKind] at hk <;> simp [hk]
       obtain ⟨β', w', q, hR', hLe, hrun, hq⟩ := append_sound (P := P) (ty := o.type) hR hd hd2 hu hl hkk
       refine ⟨β', w', hR', hLe, .inl ⟨q, ?_, hq⟩⟩
       rw [hexec]
       have e1 : c.args.map a.eval = #[d, d2] := by apply Array.toList_inj.1; rw [Array.toList_map, hv']
       have e2 : c.argTypes = #[t, u] := by apply Array.toList_inj.1; rw [hts]
       rw [e1, e2]
       exact run_v hrun
  ·cases h
 ·rename_i t0 ts0 tt r n z hts
  obtain ⟨u, hu, he⟩ := map_some h
  cases he
  cases hv' : c.args.toList.map a.eval with
  | nil => rw [hv'] at hv; cases hv
  | cons d ds =>
   rw [hv'] at hv
   cases hv with
   | cons _ _ _ _ hd hds =>
    cases hds
    have e1 : c.args.map a.eval = #[d] := by apply Array.toList_inj.1; rw [Array.toList_map, hv']
    obtain ⟨q, hq, hqv⟩ : ∃ q, (Builtin.unsafeSliceData_ c.argTypes o.type #[d]).run P w = .ok q w ∧ VRel H.n β v q := by
     unfold dataPtr at hu
     split at hu
     ·split at hu
      ·rename_i hz
       cases hu
       cases hd with
       | snil _ _ a0 h0 =>
        have := h0 hz
        subst this
        exact ⟨_, Lib.run_unsafeSliceData_nil w _ _ _ _, .pnil _⟩
      ·cases hu
     ·split at hu
      ·rename_i hn
       cases hu
       cases hd with
       | slice _ _ _ _ cap a0 hg hle hsm hb =>
        cases a0 with
        | none => have := hsm rfl; omega
        | some ad =>
         refine ⟨_, Lib.run_unsafeSliceData_row w _ _ _ _ _ (by omega), .ptr _ _ _ hg fun b hbg => ?_⟩
         obtain ⟨h1, h2⟩ := hb b hbg
         cases hbn : b.nil with
         | true => have := (h1 hbn).1; omega
         | false =>
          have := (h2 hbn).1 (by omega)
          cases this
          exact ⟨rfl, rfl⟩
      ·cases hu
    refine Fits.same hR (c := q) ?_ hqv
    rw [hexec, e1]
    exact run_v hq
 ·rename_i pt it tt r uu n hts
  obtain ⟨⟨u1, u2⟩, hu0, he⟩ := map_some h
  cases he
  cases hv' : c.args.toList.map a.eval with
  | nil => rw [hv'] at hv; cases hv
  | cons d ds =>
   rw [hv'] at hv
   cases hv with
   | cons _ _ _ _ hd hds =>
    cases hds with
    | cons _ d2 _ _ hd2 hds2 =>
     cases hds2
     have e1 : c.args.map a.eval = #[d, d2] := by apply Array.toList_inj.1; rw [Array.toList_map, hv']
     cases hd2
     have e2 : c.argTypes = #[pt, it] := by apply Array.toList_inj.1; rw [hts]
     obtain ⟨β', w', q, hR', hLe, hrun, hq⟩ := rawStr_sound (P := P) (pt := pt) (it := it) (ty := o.type) (t := false) hR hd hu0
     refine ⟨β', w', hR', hLe, .inl ⟨q, ?_, hq⟩⟩
     rw [hexec, e1, e2]
     exact run_v hrun
 ·rename_i t tt r n z hts
  obtain ⟨H1, hu0, he⟩ := map_some h
  cases he
  cases hv' : c.args.toList.map a.eval with
  | nil => rw [hv'] at hv; cases hv
  | cons d ds =>
   rw [hv'] at hv
   cases hv with
   | cons _ _ _ _ hd hds =>
    cases hds
    have e1 : c.args.map a.eval = #[d] := by apply Array.toList_inj.1; rw [Array.toList_map, hv']
    have e2 : c.argTypes = #[t] := by apply Array.toList_inj.1; rw [hts]
    obtain ⟨w', hR', hLe, hrun⟩ := clear_sound (P := P) (ty0 := o.type) hR hd hu0
    refine ⟨β, w', hR', hLe, .inl ⟨.tuple #[], ?_, .tup _ _ .nil⟩⟩
    rw [hexec, e1, e2]
    exact run_v hrun
 ·cases h
end mem
end Go.Vx
end
