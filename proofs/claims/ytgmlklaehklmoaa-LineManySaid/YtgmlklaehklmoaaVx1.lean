/- An evaluator of the program's functions over a plain heap of rows: the words that the seat's proofs use. (A help: no statement of the seat is proved here.) -/
import Derived.Orders
namespace Go.Vx

/-- A place: a row's number, an element's number in it, how many cells an element has, a cell's number in the element. -/
structure Ref where
  g : Nat
  e : Nat
  z : Nat
  o : Nat
  deriving DecidableEq
/-- The cell's number in the row. -/
def Ref.i (r : Ref) : Nat := r.e * r.z + r.o
def Ref.to (r : Ref) (k : Nat) : Ref := ⟨r.g, r.e, r.z, r.o + k⟩
@[simp] theorem Ref.to_g (r : Ref) (k : Nat) : (r.to k).g = r.g := rfl
@[simp] theorem Ref.to_i (r : Ref) (k : Nat) : (r.to k).i = r.i + k := by simp only [Ref.i, Ref.to]; omega
/-- The place of an element behind a place. -/
def Ref.el (r : Ref) (k s : Nat) : Ref := bif Nat.beq r.z s then ⟨r.g, r.e + k, s, r.o⟩ else bif Nat.beq r.e 0 then ⟨r.g, k, s, r.o⟩ else ⟨r.g, r.e, r.z, r.o + k * s⟩
@[simp] theorem Ref.el_g (r : Ref) (k s : Nat) : (r.el k s).g = r.g := by
  unfold Ref.el
  cases Nat.beq r.z s <;> cases Nat.beq r.e 0 <;> rfl
@[simp] theorem Ref.el_i (r : Ref) (k s : Nat) : (r.el k s).i = r.i + k * s := by
  unfold Ref.el
  cases h : Nat.beq r.z s with
  | true =>
    have h := Nat.eq_of_beq_eq_true h
    subst h
    simp only [Ref.i, cond_true, Nat.add_mul]
    omega
  | false =>
    cases h' : Nat.beq r.e 0 with
    | true =>
      have h' := Nat.eq_of_beq_eq_true h'
      simp only [Ref.i, cond_true, cond_false, h', Nat.zero_mul]
      omega
    | false => simp only [Ref.i, cond_false]; omega

/-- Data: what an element of a row is. -/
inductive Ty where
  | bool
  | int (k : IntKind)
  | byte
  | str
  | sl (t : Ty)
  | unit
  | pair (a b : Ty)
  deriving DecidableEq
@[reducible] def Ty.den : Ty → Type
  | .bool => Bool
  | .int _ => Int
  | .byte => UInt8
  | .str => List UInt8
  | .sl t => List t.den
  | .unit => Unit
  | .pair a b => a.den × b.den
def Ty.dflt : (t : Ty) → t.den
  | .bool => false
  | .int _ => (0 : Int)
  | .byte => (0 : UInt8)
  | .str => []
  | .sl _ => []
  | .unit => ()
  | .pair a b => (a.dflt, b.dflt)
/-- How many cells. -/
def Ty.z : Ty → Nat
  | .unit => 0
  | .pair a b => a.z + b.z
  | _ => 1

inductive AV where
  | bool (t : Bool) (b : Bool)
  | int (t : Bool) (k : IntKind) (n : Int)
  | str (t : Bool) (s : List UInt8)
  | ptr (t : Bool) (r : Option Ref)
  | slice (t : Bool) (r : Option Ref) (len sz : Nat)
  | vec (t : Ty) (l : List t.den)
  | eptr (t : Ty) (l : List t.den) (e o : Nat)
  | map (r : Option Nat)
  | func (fn : Fn) (first captured : List AV)
  | nilFunc
  | nilIface
  | agg (cs : List AV)
  | tup (vs : List AV)
  deriving Inhabited

/-- Does it hang on the input? (A word for the evaluator alone: it turns nothing.) -/
def AV.tag : AV → Bool
  | .bool t _ => t
  | .int t _ _ => t
  | .str t _ => t
  | .ptr t _ => t
  | .slice t _ _ _ => t
  | _ => false

/-- It hangs on the input from now on. -/
def AV.hot (t : Bool) : AV → AV
  | .bool u b => .bool (t || u) b
  | .int u k n => .int (t || u) k n
  | .str u s => .str (t || u) s
  | .ptr u r => .ptr (t || u) r
  | .slice u r n z => .slice (t || u) r n z
  | v => v

def AV.cells : AV → List AV
  | .agg cs => cs
  | v => [v]

/-- May it stand in one cell? -/
def AV.cell : AV → Bool
  | .agg _ => false
  | .tup _ => false
  | _ => true

/-- A table by number. -/
inductive Trie (α : Type) where
  | leaf
  | node (v : Option α) (l r : Trie α)

def Trie.get {α : Type} : Trie α → Nat → Option α
  | .leaf, _ => none
  | .node v l r, n => bif Nat.beq n 0 then v else bif Nat.beq (n % 2) 1 then l.get (n / 2) else r.get (n / 2 - 1)

def Trie.val {α : Type} : Trie α → Option α
  | .leaf => none
  | .node v _ _ => v
def Trie.left {α : Type} : Trie α → Trie α
  | .leaf => .leaf
  | .node _ l _ => l
def Trie.right {α : Type} : Trie α → Trie α
  | .leaf => .leaf
  | .node _ _ r => r

def Trie.setF {α : Type} : Nat → Trie α → Nat → α → Trie α
  | 0, t, _, _ => t
  | k + 1, t, n, a => bif Nat.beq n 0 then .node (some a) t.left t.right
      else bif Nat.beq (n % 2) 1 then .node t.val (t.left.setF k (n / 2) a) t.right
      else .node t.val t.left (t.right.setF k (n / 2 - 1) a)

def Trie.set {α : Type} (t : Trie α) (n : Nat) (a : α) : Trie α := t.setF (n + 1) n a

theorem nbeq_yes {a b : Nat} (h : a = b) : Nat.beq a b = true := by subst h; simp
theorem nbeq_no {a b : Nat} (h : ¬ a = b) : Nat.beq a b = false := by
  cases e : Nat.beq a b with
  | false => rfl
  | true => exact absurd (Nat.eq_of_beq_eq_true e) h

theorem Trie.get_leaf {α : Type} (n : Nat) : (Trie.leaf : Trie α).get n = none := by simp [Trie.get]

theorem Trie.get_node {α : Type} (v : Option α) (l r : Trie α) (n : Nat) :
    (Trie.node v l r).get n = if n = 0 then v else if n % 2 = 1 then l.get (n / 2) else r.get (n / 2 - 1) := by
  rw [Trie.get]
  by_cases h : n = 0
  · rw [nbeq_yes h, if_pos h]; rfl
  · rw [nbeq_no h, if_neg h]
    by_cases h1 : n % 2 = 1
    · rw [nbeq_yes h1, if_pos h1]; rfl
    · rw [nbeq_no h1, if_neg h1]; rfl

theorem Trie.eta {α : Type} (t : Trie α) (n : Nat) : (Trie.node t.val t.left t.right).get n = t.get n := by
  cases t with
  | leaf => simp [Trie.val, Trie.left, Trie.right, Trie.get_node, Trie.get_leaf]
  | node v l r => rfl

theorem Trie.get_setF {α : Type} (k : Nat) : ∀ (t : Trie α) (n m : Nat) (a : α), n < k → (t.setF k n a).get m = if m = n then some a else t.get m := by
  induction k with
  | zero => intro t n m a h; omega
  | succ k ih =>
    intro t n m a h
    rw [← Trie.eta t m, Trie.setF]
    by_cases h0 : n = 0
    · rw [nbeq_yes h0, cond_true, Trie.get_node, Trie.get_node]
      subst h0
      by_cases e : m = 0
      · rw [if_pos e, if_pos e]
      · simp only [if_neg e]
    · rw [nbeq_no h0, cond_false]
      by_cases h1 : n % 2 = 1
      · rw [nbeq_yes h1, cond_true, Trie.get_node, Trie.get_node, ih _ _ _ _ (by omega)]
        by_cases e : m = n
        · rw [if_neg (by omega), if_pos (by omega), if_pos (by omega), if_pos e]
        · rw [if_neg e]
          by_cases e0 : m = 0
          · rw [if_pos e0, if_pos e0]
          · rw [if_neg e0, if_neg e0]
            by_cases e1 : m % 2 = 1
            · rw [if_pos e1, if_pos e1, if_neg (by omega)]
            · rw [if_neg e1, if_neg e1]
      · rw [nbeq_no h1, cond_false, Trie.get_node, Trie.get_node, ih _ _ _ _ (by omega)]
        by_cases e : m = n
        · rw [if_neg (by omega), if_neg (by omega), if_pos (by omega), if_pos e]
        · rw [if_neg e]
          by_cases e0 : m = 0
          · rw [if_pos e0, if_pos e0]
          · rw [if_neg e0, if_neg e0]
            by_cases e1 : m % 2 = 1
            · rw [if_pos e1, if_pos e1]
            · rw [if_neg e1, if_neg e1, if_neg (by omega)]

theorem Trie.get_set {α : Type} (t : Trie α) (n m : Nat) (a : α) : (t.set n a).get m = if m = n then some a else t.get m :=
  Trie.get_setF (n + 1) t n m a (by omega)
theorem Trie.get_set_eq {α : Type} (t : Trie α) (n : Nat) (a : α) : (t.set n a).get n = some a := by rw [Trie.get_set, if_pos rfl]
theorem Trie.get_set_ne {α : Type} (t : Trie α) (n m : Nat) (a : α) (h : m ≠ n) : (t.set n a).get m = t.get m := by rw [Trie.get_set, if_neg h]

/-- Data as cells. -/
def enc : (t : Ty) → t.den → List AV
  | .bool, b => [.bool true b]
  | .int k, n => [.int true k n]
  | .byte, b => [.int true .u8 (b.toNat : Int)]
  | .str, s => [.str true s]
  | .sl t, l => [.vec t l]
  | .unit, _ => []
  | .pair a b, x => enc a x.1 ++ enc b x.2
def encL (t : Ty) (l : List t.den) : List AV := l.flatMap (enc t)
theorem enc_length : (t : Ty) → (x : t.den) → (enc t x).length = t.z
  | .bool, _ => rfl
  | .int _, _ => rfl
  | .byte, _ => rfl
  | .str, _ => rfl
  | .sl _, _ => rfl
  | .unit, _ => rfl
  | .pair a b, x => by simp only [enc, List.length_append, enc_length a, enc_length b, Ty.z]
theorem enc_all : (t : Ty) → (x : t.den) → (enc t x).all AV.cell = true
  | .bool, _ => rfl
  | .int _, _ => rfl
  | .byte, _ => rfl
  | .str, _ => rfl
  | .sl _, _ => rfl
  | .unit, _ => rfl
  | .pair a b, x => by simp only [enc, List.all_append, enc_all a, enc_all b, Bool.and_true]
theorem encL_length (t : Ty) : (l : List t.den) → (encL t l).length = l.length * t.z
  | [] => by simp [encL]
  | x :: l => by
    have := encL_length t l
    simp only [encL, List.flatMap_cons, List.length_append, enc_length, List.length_cons, Nat.add_mul] at this ⊢
    omega
theorem encL_all (t : Ty) (l : List t.den) : (encL t l).all AV.cell = true := by
  simp only [encL, List.all_flatMap, enc_all]
  simp
theorem encL_append (t : Ty) (l l' : List t.den) : encL t (l ++ l') = encL t l ++ encL t l' := by simp [encL]
theorem encL_drop (t : Ty) : (l : List t.den) → (n : Nat) → encL t (l.drop n) = (encL t l).drop (n * t.z)
  | l, 0 => by simp
  | [], n + 1 => by simp [encL]
  | x :: l, n + 1 => by
    have e : encL t (x :: l) = enc t x ++ encL t l := by simp [encL]
    have h0 : (enc t x).drop ((n + 1) * t.z) = [] := List.drop_eq_nil_of_le (by rw [enc_length, Nat.add_mul]; omega)
    have h1 : (n + 1) * t.z - t.z = n * t.z := by rw [Nat.add_mul]; omega
    rw [List.drop_succ_cons, encL_drop t l n, e, List.drop_append, enc_length, h0, List.nil_append, h1]
theorem encL_take (t : Ty) : (l : List t.den) → (n : Nat) → encL t (l.take n) = (encL t l).take (n * t.z)
  | l, 0 => by simp [encL]
  | [], n + 1 => by simp [encL]
  | x :: l, n + 1 => by
    have e : encL t (x :: l) = enc t x ++ encL t l := by simp [encL]
    have e' : encL t (x :: l.take n) = enc t x ++ encL t (l.take n) := by simp [encL]
    have h0 : (enc t x).take ((n + 1) * t.z) = enc t x := List.take_of_length_le (by rw [enc_length, Nat.add_mul]; omega)
    have h1 : (n + 1) * t.z - t.z = n * t.z := by rw [Nat.add_mul]; omega
    rw [List.take_succ_cons, e', encL_take t l n, e, List.take_append, enc_length, h0, h1]
/-- A cell of an element. -/
theorem encL_get (t : Ty) (l : List t.den) (e o : Nat) (he : e < l.length) (ho : o < t.z) : (encL t l)[e * t.z + o]? = (enc t (l.getD e t.dflt))[o]? := by
  have h1 : (encL t l)[e * t.z + o]? = ((encL t l).drop (e * t.z))[o]? := by rw [List.getElem?_drop]
  rw [h1, ← encL_drop, List.drop_eq_getElem_cons he]
  have e1 : encL t (l[e] :: l.drop (e + 1)) = enc t l[e] ++ encL t (l.drop (e + 1)) := by simp only [encL, List.flatMap_cons]
  rw [e1, List.getElem?_append_left (by rw [enc_length]; exact ho), List.getD_eq_getElem?_getD, List.getElem?_eq_getElem he]
  rfl
theorem encL_elem (t : Ty) (l : List t.den) (e : Nat) (he : e < l.length) : ((encL t l).drop (e * t.z)).take t.z = enc t (l.getD e t.dflt) := by
  rw [← encL_drop, List.drop_eq_getElem_cons he]
  have e1 : encL t (l[e] :: l.drop (e + 1)) = enc t l[e] ++ encL t (l.drop (e + 1)) := by simp only [encL, List.flatMap_cons]
  rw [e1, List.take_append, enc_length, Nat.sub_self, List.take_zero, List.append_nil, List.take_of_length_le (by rw [enc_length]; exact Nat.le_refl _), List.getD_eq_getElem?_getD, List.getElem?_eq_getElem he]
  rfl

/-! Cells as data. -/
def decBool : List AV → Option (Bool × List AV)
  | .bool _ b :: l => some (b, l)
  | _ => none
def decInt (k : IntKind) : List AV → Option (Int × List AV)
  | .int _ k' n :: l => if k = k' then some (n, l) else none
  | _ => none
def decByte : List AV → Option (UInt8 × List AV)
  | .int _ k' n :: l => if k' = .u8 ∧ 0 ≤ n ∧ n < 256 then some (UInt8.ofNat n.toNat, l) else none
  | _ => none
def decStr : List AV → Option (List UInt8 × List AV)
  | .str _ s :: l => some (s, l)
  | _ => none
def decSl (t : Ty) : List AV → Option (List t.den × List AV)
  | .vec t' x :: l => if h : t' = t then some (h ▸ x, l) else none
  | .slice _ r _ _ :: l => match r with
    | none => some ([], l)
    | some _ => none
  | _ => none
def dec : (t : Ty) → List AV → Option (t.den × List AV)
  | .bool, l => decBool l
  | .int k, l => decInt k l
  | .byte, l => decByte l
  | .str, l => decStr l
  | .sl t, l => decSl t l
  | .unit, l => some ((), l)
  | .pair a b, l => match dec a l with
    | some (x, l') => match dec b l' with
      | some (y, l'') => some ((x, y), l'')
      | none => none
    | none => none
def dec1 (t : Ty) (l : List AV) : Option t.den := match dec t l with
  | some (x, []) => some x
  | _ => none
def decN (t : Ty) : Nat → List AV → Option (List t.den)
  | 0, [] => some []
  | n + 1, l => match dec t l with
    | some (x, l') => (decN t n l').map (x :: ·)
    | none => none
  | _, _ => none
def decL (t : Ty) (l : List AV) : Option (List t.den) := if t.z = 0 then none else decN t (l.length / t.z) l

/-- A row. -/
inductive AObj where
  | dead
  | cells (cs : List AV) (elem : TypeId) (ro : Bool)
  | vec (t : Ty) (l : List t.den) (elem : TypeId) (ro : Bool)
  | fro (t : Ty) (l : List t.den) (elem : TypeId)

/-- Its cells, the type of one element, may it only be read? -/
def AObj.row : AObj → Option (List AV × TypeId × Bool)
  | .dead => none
  | .cells cs e ro => some (cs, e, ro)
  | .vec t l e ro => some (encL t l, e, ro)
  | .fro t l e => some (encL t l, e, true)

/-- Rows; how many; how often each was written. -/
structure Heap where
  n : Nat
  t : Trie AObj
  w : Trie Nat := .leaf
def Heap.empty : Heap := { n := 0, t := .leaf }
def Heap.gen (H : Heap) (g : Nat) : Nat := match H.w.get g with
  | some k => k
  | none => 0

def Heap.get (H : Heap) (g : Nat) : Option AObj := H.t.get g
def Heap.set (H : Heap) (g : Nat) (o : AObj) : Heap := { n := H.n, t := H.t.set g o, w := H.w.set g (H.gen g + 1) }
def Heap.push (H : Heap) (o : AObj) : Heap := { n := H.n + 1, t := H.t.set H.n o, w := H.w }
theorem Heap.get_set (H : Heap) (g h : Nat) (o : AObj) : (H.set g o).get h = if h = g then some o else H.get h := Trie.get_set ..
theorem Heap.get_push (H : Heap) (h : Nat) (o : AObj) : (H.push o).get h = if h = H.n then some o else H.get h := Trie.get_set ..
def Heap.row (H : Heap) (g : Nat) : Option (List AV × TypeId × Bool) := (H.get g).bind AObj.row
theorem Heap.row_set (H : Heap) (g h : Nat) (o : AObj) : (H.set g o).row h = if h = g then o.row else H.row h := by
  unfold Heap.row
  rw [Heap.get_set]
  split <;> rfl
theorem Heap.row_push (H : Heap) (h : Nat) (o : AObj) : (H.push o).row h = if h = H.n then o.row else H.row h := by
  unfold Heap.row
  rw [Heap.get_push]
  split <;> rfl
@[simp] theorem Heap.n_set (H : Heap) (g : Nat) (o : AObj) : (H.set g o).n = H.n := rfl
@[simp] theorem Heap.n_push (H : Heap) (o : AObj) : (H.push o).n = H.n + 1 := rfl

/-! The variables of a call: how many, what they hold. -/
structure Tm where
  n : Nat
  t : Trie AV

def Tm.get (m : Tm) (i : Nat) : Option AV := m.t.get i
def Tm.put (m : Tm) (i : Nat) (v : AV) : Option Tm := bif Nat.blt i m.n then some { n := m.n, t := m.t.set i v } else none
def Tm.dst (m : Tm) : Option Nat → AV → Option Tm
  | none, _ => some m
  | some i, v => m.put i v

/-! Types. -/
def isAgg? (P : Program) (t : TypeId) : Option Bool :=
  match P.underlying t with
  | none => none
  | some (.struct _) => some true
  | some (.array _ _) => some true
  | some _ => some false
def size? (P : Program) (t : TypeId) : Option Nat := (P.info? t).map (·.size)
def bytes? (P : Program) (t : TypeId) : Option Nat := (P.info? t).map (·.bytes)

/-! Constants. -/
def ofCell : Value → Option AV
  | .bool b => some (.bool false b)
  | .int k n => some (.int false k n)
  | .string s => some (.str false s.data.toList)
  | .pointer none => some (.ptr false none)
  | .slice none 0 0 => some (.slice false none 0 0)
  | .map none => some (.map none)
  | .nilFunc => some .nilFunc
  | .nilIface => some .nilIface
  | _ => none
def ofCells : List Value → Option (List AV)
  | [] => some []
  | v :: l => match ofCell v, ofCells l with
    | some a, some as => some (a :: as)
    | _, _ => none
def ofConst : Value → Option AV
  | .agg cs => (ofCells cs.toList).map .agg
  | .tuple vs => if vs.size = 0 then some (.tup []) else none
  | v => ofCell v
def zero? (P : Program) (t : TypeId) : Option AV := (P.info? t).bind fun i => i.zero.bind ofConst

def opnd (m : Tm) : Operand → Option AV
  | .tmp t => m.get t
  | .const v => ofConst v
  | .global _ => none
  | .func f => some (.func (.func f) [] [])
def opnds (m : Tm) : List Operand → Option (List AV)
  | [] => some []
  | x :: l => match opnd m x, opnds m l with
    | some a, some as => some (a :: as)
    | _, _ => none

/-! Memory. -/
def splice (cs : List AV) (i : Nat) (vs : List AV) : List AV := cs.take i ++ vs ++ cs.drop (i + vs.length)
def loadV (P : Program) (H : Heap) (t : TypeId) (r : Ref) : Option AV :=
  match H.row r.g with
  | some (cs, _, _) =>
    match isAgg? P t with
    | some true => match size? P t with
      | some s => if r.i + s ≤ cs.length then some (.agg ((cs.drop r.i).take s)) else none
      | none => none
    | some false => cs[r.i]?
    | none => none
  | none => none
/-- Cells written into a row. -/
def AObj.put (o : AObj) (cs : List AV) (e : TypeId) (r : Ref) (vs : List AV) : AObj :=
  match o with
  | .vec t l e _ => if r.z = t.z ∧ r.e < l.length ∧ r.o + vs.length ≤ t.z then match dec1 t (splice (enc t (l.getD r.e t.dflt)) r.o vs) with
      | some x => .vec t (l.set r.e x) e false
      | none => .cells (splice cs r.i vs) e false
    else .cells (splice cs r.i vs) e false
  | _ => .cells (splice cs r.i vs) e false
/-- An element of data, or a part of it. -/
def loadE (P : Program) (u : TypeId) (t : Ty) (l : List t.den) (e o : Nat) : Option AV :=
  match isAgg? P u, size? P u with
  | some true, some s => if e < l.length ∧ o + s ≤ t.z then some (.agg (((enc t (l.getD e t.dflt)).drop o).take s)) else none
  | some false, some _ => if e < l.length ∧ o < t.z then (enc t (l.getD e t.dflt))[o]? else none
  | _, _ => none
def storeV (P : Program) (H : Heap) (t : TypeId) (r : Ref) (v : AV) : Option Heap :=
  match H.get r.g with
  | some o => match o.row with
    | some (cs, e, false) => match size? P t with
      | some s => if v.cells.length = s ∧ r.i + s ≤ cs.length ∧ v.cells.all AV.cell = true then some (H.set r.g (o.put cs e r v.cells)) else none
      | none => none
    | _ => none
  | none => none

/-! Numbers, texts. -/
def arith (t : Bool) (op : BinOp) (k : IntKind) (a b : Int) : Option AV :=
  match op with
  | .add => some (.int t k (k.wrap (a + b)))
  | .sub => some (.int t k (k.wrap (a - b)))
  | .mul => some (.int t k (k.wrap (a * b)))
  | .quo => if b = 0 then none else some (.int t k (k.wrap (a.tdiv b)))
  | .rem => if b = 0 then none else some (.int t k (a.tmod b))
  | .and => some (.int t k (k.wrap (BitVec.ofInt k.bits a &&& BitVec.ofInt k.bits b).toNat))
  | .or => some (.int t k (k.wrap (BitVec.ofInt k.bits a ||| BitVec.ofInt k.bits b).toNat))
  | .xor => some (.int t k (k.wrap (BitVec.ofInt k.bits a ^^^ BitVec.ofInt k.bits b).toNat))
  | .andNot => some (.int t k (k.wrap (BitVec.ofInt k.bits a &&& ~~~ (BitVec.ofInt k.bits b)).toNat))
  | .eql => some (.bool t (a == b))
  | .neq => some (.bool t (a != b))
  | .lss => some (.bool t (decide (a < b)))
  | .leq => some (.bool t (decide (a ≤ b)))
  | .gtr => some (.bool t (decide (a > b)))
  | .geq => some (.bool t (decide (a ≥ b)))
  | _ => none
def shiftA (t : Bool) (op : BinOp) (k : IntKind) (a b : Int) : Option AV :=
  if b < 0 then none else
  match op with
  | .shl => some (.int t k (k.wrap (a * 2 ^ min b.toNat k.bits)))
  | .shr => some (.int t k (a.fdiv (2 ^ min b.toNat k.bits)))
  | _ => none
def strA (t : Bool) (op : BinOp) (a b : List UInt8) : Option AV :=
  match op with
  | .add => if ((a.length + b.length : Nat) : Int) ≤ 9223372036854775807 then some (.str t (a ++ b)) else none
  | .eql => some (.bool t (a == b))
  | .neq => some (.bool t (!(a == b)))
  | .lss => some (.bool t (Op.bytesLess a b))
  | .leq => some (.bool t (Op.bytesLess a b || a == b))
  | .gtr => some (.bool t (!(Op.bytesLess a b || a == b)))
  | .geq => some (.bool t (!(Op.bytesLess a b)))
  | _ => none

/-- Is a type one of pointers, slices, maps, functions? -/
def kindOf (P : Program) (t : TypeId) : Nat :=
  match P.underlying t with
  | some .bool => 1
  | some (.pointer _) => 2
  | some (.slice _) => 3
  | some (.map _ _) => 4
  | some (.func _ _ _) => 5
  | some (.int _) => 6
  | some .string => 7
  | some (.struct _) => 8
  | _ => 0

/-- Structs of whole numbers, bools and texts are held against one another field by field. -/
def fieldEq (P : Program) (t : TypeId) : AV → AV → Option (Bool × Bool)
  | .bool u a, .bool u' b => if kindOf P t = 1 then some (u || u', a == b) else none
  | .int u k a, .int u' k' b => if kindOf P t = 6 ∧ k = k' then some (u || u', a == b) else none
  | .str u a, .str u' b => if kindOf P t = 7 then some (u || u', a == b) else none
  | _, _ => none
def fieldsEq (P : Program) : Nat → List Field → List AV → List AV → Option (Bool × Bool)
  | _, [], [], [] => some (false, true)
  | off, f :: fs, x :: xs, y :: ys =>
    if f.offset = off ∧ (f.name == "_") = false then
      match fieldEq P f.type x y, fieldsEq P (off + 1) fs xs ys with
      | some (u, a), some (u', b) => some (u || u', a && b)
      | _, _ => none
    else none
  | _, _, _, _ => none
def structEq (P : Program) (t : TypeId) (xs ys : List AV) : Option (Bool × Bool) :=
  match P.underlying t with
  | some (.struct fs) => if P.stoodInHeld t = false ∧ P.eqGuardType P.depth t = false then fieldsEq P 0 fs.toList xs ys else none
  | _ => none

def sameA (P : Program) (t : TypeId) (x y : AV) : Option (Bool × Bool) :=
  match x, y with
  | .bool u a, .bool u' b => if kindOf P t = 1 then some (u || u', a == b) else none
  | .ptr _ none, .ptr _ b => if kindOf P t = 2 then some (false, b.isNone) else none
  | .ptr _ (some _), .ptr _ none => if kindOf P t = 2 then some (false, false) else none
  | .map none, .map b => if kindOf P t = 4 then some (false, b.isNone) else none
  | .map (some _), .map none => if kindOf P t = 4 then some (false, false) else none
  | .nilFunc, .nilFunc => if kindOf P t = 5 then some (false, true) else none
  | .nilFunc, .func _ _ _ => if kindOf P t = 5 then some (false, false) else none
  | .func _ _ _, .nilFunc => if kindOf P t = 5 then some (false, false) else none
  | .agg a, .agg b => structEq P t a b
  | _, _ => none

def binA (P : Program) (op : BinOp) (t : TypeId) (x y : AV) : Option AV :=
  match x, y with
  | .int u k a, .int u' k' b => match op with
    | .shl | .shr => shiftA (u || u') op k a b
    | _ => if k = k' then arith (u || u') op k a b else none
  | .str u a, .str u' b => strA (u || u') op a b
  | x, y => match op with
    | .eql => (sameA P t x y).map fun r => .bool r.1 r.2
    | .neq => (sameA P t x y).map fun r => .bool r.1 (!r.2)
    | _ => none

def unA (op : UnOp) (x : AV) : Option AV :=
  match op, x with
  | .neg, .int t k n => some (.int t k (k.wrap (0 - n)))
  | .xor, .int t k n => arith t .xor k (if k.signed then -1 else k.max) n
  | .not, .bool t b => some (.bool t !b)
  | _, _ => none

def bytesAV (t : Bool) (s : List UInt8) : List AV := s.map fun b => .int t .u8 b.toNat
def strOfAV : List AV → Option (List UInt8)
  | [] => some []
  | .int _ .u8 n :: l => match strOfAV l with
    | some s => some (UInt8.ofNat n.toNat :: s)
    | none => none
  | _ :: _ => none

/-- A row's cells, from a place on. -/
def rowAt (H : Heap) (r : Ref) (n : Nat) : Option (List AV) :=
  match H.row r.g with
  | some (cs, _, _) => if r.i + n ≤ cs.length then some ((cs.drop r.i).take n) else none
  | none => none

/-- Cells, as they are read for another row. -/
inductive Lot where
  | cells (l : List AV)
  | vec (t : Ty) (l : List t.den)
def Lot.list : Lot → List AV
  | .cells l => l
  | .vec t l => encL t l
def Lot.ok : Lot → Bool
  | .cells l => l.all AV.cell
  | _ => true
/-- n elements of s cells each. -/
def AObj.srcAt (o : AObj) (r : Ref) (n s : Nat) : Option Lot :=
  match o with
  | .vec t l _ _ => if r.z = t.z ∧ r.o = 0 ∧ s = t.z ∧ r.e + n ≤ l.length then some (.vec t ((l.drop r.e).take n)) else none
  | .fro t l _ => if r.z = t.z ∧ r.o = 0 ∧ s = t.z ∧ r.e + n ≤ l.length then some (.vec t ((l.drop r.e).take n)) else none
  | o => match o.row with
    | some (cs, _, _) => if r.i + n * s ≤ cs.length then some (.cells ((cs.drop r.i).take (n * s))) else none
    | none => none
def strSrc (t : Bool) (s : List UInt8) : Lot := bif t then .vec .byte s else .cells (bytesAV false s)
/-- A row of two parts. -/
def joinRow (a b : Lot) (e : TypeId) : AObj :=
  match a, b with
  | .vec t l, .vec t' l' => if h : t' = t then .vec t (l ++ (h ▸ l')) e false else .cells (a.list ++ b.list) e false
  | .vec t l, .cells cs => match decL t cs with
    | some l' => .vec t (l ++ l') e false
    | none => .cells (a.list ++ b.list) e false
  | .cells cs, .vec t l' => match decL t cs with
    | some l => .vec t (l ++ l') e false
    | none => .cells (a.list ++ b.list) e false
  | a, b => .cells (a.list ++ b.list) e false
def strOfSrc : Lot → Option (Bool × List UInt8)
  | .vec .byte l => some (true, l)
  | .vec (.int .u8) l => some (true, l.map fun n => UInt8.ofNat (Int.toNat n))
  | .cells l => (strOfAV l).map fun x => (l.any AV.tag, x)
  | _ => none

def isU8 (P : Program) (e : TypeId) : Bool :=
  match P.underlying e with
  | some (.int .u8) => true
  | _ => false
/-- What a slice has. -/
def sliceSrc (H : Heap) (r : Option Ref) (n s : Nat) : Option Lot :=
  match r with
  | none => some (.cells [])
  | some r => match H.get r.g with
    | some o => o.srcAt r n s
    | none => none
def convA (P : Program) (src dst : TypeId) (x : AV) (H : Heap) : Option (AV × Heap) :=
  match P.underlying src, P.underlying dst, x with
  | some (.int _), some (.int k), .int t _ n => some (.int t k (k.wrap n), H)
  | some .string, some .string, .str t s => some (.str t s, H)
  | some .string, some (.slice e), .str t s =>
    if isU8 P e = true ∧ s.length ≤ 140737488355328 then some (.slice t (some ⟨H.n, 0, 1, 0⟩) s.length 1, H.push (joinRow (.cells []) (strSrc t s) e)) else none
  | some (.slice e), some .string, .slice t r n sz =>
    if isU8 P e = true ∧ sz = 1 then
      match sliceSrc H r n 1 with
      | some cs => (strOfSrc cs).map fun s => (.str (t || s.1) s.2, H)
      | none => none
    else none
  | some (.slice e), some .string, .vec .byte l => if isU8 P e = true then some (.str true l, H) else none
  | _, _, _ => none

def fieldOf (P : Program) (s : TypeId) (f : Nat) : Option Field :=
  match P.underlying s with
  | some (.struct fields) => fields[f]?
  | _ => none
def partA (P : Program) (t : TypeId) (cs : List AV) (off : Nat) : Option AV :=
  match isAgg? P t, size? P t with
  | some true, some s => if off + s ≤ cs.length then some (.agg ((cs.drop off).take s)) else none
  | some false, some _ => cs[off]?
  | _, _ => none

/-- Parts laid into cells. -/
def fillA (place : Nat → Option (Nat × Nat)) (cells : List AV) : List (Nat × AV) → Option (List AV)
  | [] => some cells
  | (i, v) :: rest =>
    match place i with
    | none => none
    | some (off, size) => if v.cells.length = size ∧ off + size ≤ cells.length then fillA place (splice cells off v.cells) rest else none
def placesA (P : Program) : List Field → Option (List (Nat × Nat))
  | [] => some []
  | f :: fs => match size? P f.type, placesA P fs with
    | some s, some l => some ((f.offset, s) :: l)
    | _, _ => none
def partsA (m : Tm) : List (Nat × Operand) → Option (List (Nat × AV))
  | [] => some []
  | (i, x) :: l => match opnd m x, partsA m l with
    | some a, some as => some ((i, a) :: as)
    | _, _ => none
def zerosA (z : List AV) : Nat → List AV
  | 0 => []
  | n + 1 => z ++ zerosA z n

def sliceElem (P : Program) (t : TypeId) : Option TypeId :=
  match P.underlying t with
  | some (.slice e) => some e
  | _ => none

def boundOf (d : Nat) : Option AV → Option Int
  | none => some (d : Int)
  | some (.int _ _ n) => some n
  | _ => none
def tagOf : Option AV → Bool
  | some v => v.tag
  | none => false
def optOpnd (m : Tm) : Option Operand → Option (Option AV)
  | none => some none
  | some x => (opnd m x).map some

def sliceOp (P : Program) (t : TypeId) (x : AV) (lo hi : Option AV) : Option AV :=
  match P.underlying t, x with
  | some .string, .str t s => match boundOf 0 lo, boundOf s.length hi with
    | some l, some h => if 0 ≤ l ∧ l ≤ h ∧ h ≤ (s.length : Int) then some (.str (t || tagOf lo || tagOf hi) ((s.take h.toNat).drop l.toNat)) else none
    | _, _ => none
  | some (.slice e), .slice t r n sz => match boundOf 0 lo, boundOf n hi with
    | some l, some h =>
      if 0 ≤ l ∧ l ≤ h ∧ h ≤ (n : Int) then
        match size? P e with
        | none => none
        | some s => match r with
          | none => some (.slice t none 0 sz)
          | some r => if s = sz then some (.slice (t || tagOf lo || tagOf hi) (some (r.el l.toNat sz)) (h - l).toNat sz) else none
      else none
    | _, _ => none
  | some (.slice e), .vec t s => match boundOf 0 lo, boundOf s.length hi with
    | some l, some h => if 0 ≤ l ∧ l ≤ h ∧ h ≤ (s.length : Int) ∧ size? P e = some t.z then some (.vec t ((s.take h.toNat).drop l.toNat)) else none
    | _, _ => none
  | _, _ => none
/-- A cut that leaves no room behind it. -/
def sliceOp3 (P : Program) (t : TypeId) (x : AV) (lo hi mx : Option AV) : Option AV :=
  match P.underlying t, x with
  | some (.slice e), .slice t _ _ sz => match boundOf 0 lo, boundOf 0 hi, boundOf 0 mx with
    | some l, some h, some m => if l = 0 ∧ h = 0 ∧ m = 0 ∧ size? P e ≠ none ∧ hi.isSome = true then some (.slice t none 0 sz) else none
    | _, _, _ => none
  | some (.slice e), .vec t _ => match boundOf 0 lo, boundOf 0 hi, boundOf 0 mx with
    | some l, some h, some m => if l = 0 ∧ h = 0 ∧ m = 0 ∧ size? P e ≠ none ∧ hi.isSome = true then some (.slice false none 0 t.z) else none
    | _, _, _ => none
  | _, _ => none

def indexAddrA (P : Program) (T : TypeId) (x ix : AV) : Option AV :=
  match P.underlying T, x, ix with
  | some (.slice e), .vec t l, .int _ _ i => if size? P e = some t.z ∧ 0 ≤ i ∧ i < (l.length : Int) then some (.eptr t l i.toNat 0) else none
  | some (.slice e), .slice t (some r) n _, .int u _ i => match size? P e with
    | some s => if 0 ≤ i ∧ i < (n : Int) then some (.ptr (t || u) (some (r.el i.toNat s))) else none
    | none => none
  | some (.array n e), .ptr t (some r), .int u _ i => match size? P e with
    | some s => if 0 ≤ i ∧ i < (n : Int) then some (.ptr (t || u) (some (r.el i.toNat s))) else none
    | none => none
  | _, _, _ => none
def indexA (P : Program) (t : TypeId) (x ix : AV) : Option AV :=
  match P.underlying t, x, ix with
  | some .string, .str t s, .int u _ i => if 0 ≤ i then (s[i.toNat]?).map fun b => .int (t || u) .u8 b.toNat else none
  | some (.array n e), .agg cs, .int _ _ i => match size? P e with
    | some s => if 0 ≤ i ∧ i < (n : Int) then partA P e cs (i.toNat * s) else none
    | none => none
  | _, _, _ => none

def lenA (P : Program) (t : TypeId) (x : AV) : Option AV :=
  match P.underlying t, x with
  | some .string, .str t s => some (.int t .i64 s.length)
  | some (.slice _), .slice t _ n _ => some (.int t .i64 n)
  | some (.slice _), .vec _ l => some (.int true .i64 l.length)
  | some (.array n _), _ => some (.int false .i64 n)
  | _, _ => none
def mx2 (x y : Int) : Int := if y > x then y else x
def mn2 (x y : Int) : Int := if y < x then y else x
theorem mx2_eq (x y : Int) : mx2 x y = max x y := by unfold mx2; split <;> omega
theorem mn2_eq (x y : Int) : mn2 x y = min x y := by unfold mn2; split <;> omega
def max2A : AV → AV → Option AV
  | .int t k x, .int u _ y => some (.int (t || u) k (mx2 x y))
  | _, _ => none
def min2A : AV → AV → Option AV
  | .int t k x, .int u _ y => some (.int (t || u) k (mn2 x y))
  | _, _ => none
def foldA (f : AV → AV → Option AV) : AV → List AV → Option AV
  | x, [] => some x
  | x, y :: l => match f x y with
    | some z => foldA f z l
    | none => none

/-- What is appended: its cells, how many; does that hang on the input? -/
def srcCells (H : Heap) (sz : Nat) : AV → Option (Lot × Nat × Bool)
  | .slice _ none _ _ => some (.cells [], 0, false)
  | .slice t (some r) n z => if z = sz then (sliceSrc H (some r) n sz).map fun l => (l, n, t) else none
  | .vec t l => if sz = t.z then some (.vec t l, l.length, true) else none
  | .str t s => if sz = 1 then some (strSrc t s, s.length, t) else none
  | _ => none
def appendA (P : Program) (t : TypeId) (s x : AV) (H : Heap) : Option (AV × Heap) :=
  match sliceElem P t with
  | none => none
  | some e => match size? P e, bytes? P e, zero? P e with
    | some sz, some by_, some ze =>
      if sz = 0 ∨ by_ = 0 ∨ ze.cells.length ≠ sz then none else
      match srcCells H sz x with
      | none => none
      | some (new, n, tn) =>
        if n = 0 ∧ tn = false then
          match s with
          | .slice t r m z => if (r.isSome → z = sz) then some (.slice t r m z, H) else none
          | _ => none
        else match s with
        | .slice _ none _ _ => if n * by_ ≤ 140737488355328 ∧ new.ok = true then some (.slice tn (some ⟨H.n, 0, sz, 0⟩) n sz, H.push (joinRow (.cells []) new e)) else none
        | .slice t (some r) m z =>
          if z = sz then
            match H.row r.g, sliceSrc H (some r) m sz with
            | some (_, _, false), some old =>
              if (m + n) * by_ ≤ 140737488355328 ∧ new.ok = true then some (.slice (t || tn) (some ⟨H.n, 0, sz, 0⟩) (m + n) sz, (H.set r.g .dead).push (joinRow old new e)) else none
            | _, _ => none
          else none
        | _ => none
    | _, _, _ => none

def makeSliceA (P : Program) (t : TypeId) (l c : AV) (H : Heap) : Option (AV × Heap) :=
  match sliceElem P t, l, c with
  | some e, .int tl .i64 l, .int tc .i64 c => match size? P e, bytes? P e, zero? P e with
    | some sz, some by_, some z =>
      if sz ≠ 0 ∧ z.cells.length = sz ∧ 0 ≤ l ∧ l ≤ c ∧ c * by_ ≤ 140737488355328 ∧ c ≤ 140737488355328 ∧ z.cells.all AV.cell = true then
        some (.slice (tl || tc) (some ⟨H.n, 0, sz, 0⟩) l.toNat sz, H.push (.cells (zerosA z.cells l.toNat) e false)) else none
    | _, _, _ => none
  | _, _, _ => none

/-! Rows that stay as they are from now on: what is in them is data. -/
/-- A part of a frozen row, as data. -/
def thawAt (t t' : Ty) (l : List t'.den) (r : Ref) (n z : Nat) : Option AV :=
  if t' = t ∧ r.z = t'.z ∧ r.o = 0 ∧ z = t'.z ∧ r.e + n ≤ l.length then some (.vec t' ((l.drop r.e).take n)) else none
def freezeV (f : Nat → List AV → Heap → Option (List AV × Heap)) (t : Ty) (v : AV) (H : Heap) : Option (AV × Heap) :=
  match v with
  | .slice _ (some r) n z => match H.get r.g with
    | some (.fro t' l _) => (thawAt t t' l r n z).map (·, H)
    | some (.vec t' l e false) => (thawAt t t' l r n z).map (·, H.set r.g (.fro t' l e))
    | some (.cells cs _ false) => match f (cs.length / t.z) cs H with
      | some (cs', H') => match decL t cs', H'.get r.g with
        | some l, some (.cells cs2 e2 false) => if cs2.length = cs'.length then (thawAt t t l r n z).map (·, H'.set r.g (.fro t l e2)) else none
        | _, _ => none
      | none => none
    | _ => none
  | v => some (v, H)
def meltN (f : List AV → Heap → Option (List AV × List AV × Heap)) : Nat → List AV → Heap → Option (List AV × Heap)
  | 0, [], H => some ([], H)
  | n + 1, l, H => match f l H with
    | some (d, l', H') => match meltN f n l' H' with
      | some (d', H'') => some (d ++ d', H'')
      | none => none
    | none => none
  | _, _, _ => none
def meltT : (t : Ty) → List AV → Heap → Option (List AV × List AV × Heap)
  | .sl t, v :: l, H => (freezeV (meltN (meltT t)) t v H).map fun r => ([r.1], l, r.2)
  | .pair a b, l, H => match meltT a l H with
    | some (d, l', H') => match meltT b l' H' with
      | some (d', l'', H'') => some (d ++ d', l'', H'')
      | none => none
    | none => none
  | .unit, l, H => some ([], l, H)
  | .bool, v :: l, H => some ([v], l, H)
  | .int _, v :: l, H => some ([v], l, H)
  | .byte, v :: l, H => some ([v], l, H)
  | .str, v :: l, H => some ([v], l, H)
  | _, [], _ => none
/-- Has it slices in it? -/
def Ty.deep : Ty → Bool
  | .sl _ => true
  | .pair a b => a.deep || b.deep
  | _ => false
/-- The shape of a type's data. -/
def tysOf (f : TypeId → Option Ty) : List Field → Option Ty
  | [] => none
  | [x] => f x.type
  | x :: l => match f x.type, tysOf f l with
    | some a, some b => some (.pair a b)
    | _, _ => none
def tyOf (P : Program) : Nat → TypeId → Option Ty
  | 0, _ => none
  | n + 1, t => match P.underlying t with
    | some .bool => some .bool
    | some (.int .u8) => some .byte
    | some (.int k) => some (.int k)
    | some .string => some .str
    | some (.slice e) => (tyOf P n e).map .sl
    | some (.struct fs) => tysOf (tyOf P n) fs.toList
    | _ => none
def deepOf (P : Program) (e : TypeId) : Option Ty := match kindOf P e with
  | 3 => tyOf P 9 e
  | 8 => match tyOf P 9 e with
    | some t => if t.deep = true then some t else none
    | none => none
  | _ => none
/-- A new row of data that has slices in it. -/
def settle (P : Program) (g : Nat) (e : TypeId) (H : Heap) : Option Heap := match deepOf P e with
  | none => some H
  | some t => match H.get g with
    | some (.cells cs _ false) => match meltN (meltT t) (cs.length / t.z) cs H with
      | some (cs', H') => match decL t cs', H'.get g with
        | some l, some (.cells cs2 e2 false) => if cs2.length = cs'.length then some (H'.set g (.vec t l e2 false)) else none
        | _, _ => none
      | none => none
    | _ => none

/-- What a call comes to. -/
inductive Got where
  | val (v : AV) (H : Heap)
  | enter (f : FuncId) (args : List AV)

def srcKind (P : Program) (u : TypeId) : AV → Bool
  | .str _ _ => kindOf P u == 7
  | .slice _ _ _ _ => kindOf P u == 3
  | .vec _ _ => kindOf P u == 3
  | _ => false
def builtinA (P : Program) (b : Builtin) (ts : List TypeId) (args : List AV) (H : Heap) : Option Got :=
  match b, ts, args with
  | .len, t :: _, [x] => (lenA P t x).map fun v => .val v H
  | .max, _, x :: l => (foldA max2A x l).map fun v => .val v H
  | .min, _, x :: l => (foldA min2A x l).map fun v => .val v H
  | .append, [t, u], [s, x] => if srcKind P u x = true then (appendA P t s x H).map fun r => .val r.1 r.2 else none
  | _, _, _ => none

def callA (P : Program) (c : Call) (m : Tm) (H : Heap) : Option Got :=
  match opnds m c.args.toList with
  | none => none
  | some args => match c.callee with
    | .builtin b => builtinA P b c.argTypes.toList args H
    | .value f => match opnd m f with
      | some (.func (.func g) first cap) => match P.funcs[g]? with
        | some fn => if fn.name ≠ "runtime.NumGoroutine" ∧ fn.body.isSome = true then some (.enter g (first ++ args ++ cap)) else none
        | none => none
      | _ => none
    | .invoke _ _ => none

/-- One operation: its value (none: it has none), the heap; or the call that it makes. -/
def opA (P : Program) (o : Op) (m : Tm) (H : Heap) : Option Got :=
  match o with
  | .move x | .assign x => (opnd m x).map fun v => .val v H
  | .pick c a b => match opnd m c with
    | some (.bool _ true) => (opnd m a).map fun v => .val v H
    | some (.bool _ false) => (opnd m b).map fun v => .val v H
    | _ => none
  | .alloc t => match zero? P t with
    | some z => if z.cells.all AV.cell = true then some (.val (.ptr false (some ⟨H.n, 0, 0, 0⟩)) (H.push (.cells z.cells t false))) else none
    | none => none
  | .box t x => match opnd m x with
    | some v => if v.cells.all AV.cell = true then some (.val (.ptr false (some ⟨H.n, 0, 0, 0⟩)) (H.push (.cells v.cells t false))) else none
    | none => none
  | .build t parts => match zero? P t, partsA m parts.toList, P.underlying t with
    | some z, some ps, some (.struct fields) => match placesA P fields.toList with
      | some pl => (fillA (fun i => pl[i]?) z.cells ps).map fun cs => .val (.agg cs) H
      | none => none
    | some z, some ps, some (.array _ e) => match size? P e with
      | some s => (fillA (fun i => some (i * s, s)) z.cells ps).map fun cs => .val (.agg cs) H
      | none => none
    | _, _, _ => none
  | .buildSlice t n parts => match sliceElem P t, partsA m parts.toList with
    | some e, some ps => match size? P e, zero? P e with
      | some s, some z =>
        if s ≠ 0 ∧ n * s ≤ 16777216 ∧ z.cells.length = s then
          match fillA (fun i => some (i * s, s)) (zerosA z.cells n) ps with
          | some cs => if cs.all AV.cell = true ∧ cs.length = n * s then (settle P H.n e (H.push (.cells cs e false))).map fun H' => .val (.slice false (some ⟨H.n, 0, s, 0⟩) n s) H' else none
          | none => none
        else none
      | _, _ => none
    | _, _ => none
  | .load t a => match opnd m a with
    | some (.ptr u (some r)) => (loadV P H t r).map fun v => .val (v.hot u) H
    | some (.eptr t' l e o) => (loadE P t t' l e o).map fun v => .val v H
    | _ => none
  | .store t a x => match opnd m a, opnd m x with
    | some (.ptr _ (some r)), some v => (storeV P H t r v).map fun H' => .val (.tup []) H'
    | _, _ => none
  | .nilCheck x => match opnd m x with
    | some (.ptr t (some r)) => some (.val (.ptr t (some r)) H)
    | some (.eptr t l e o) => some (.val (.eptr t l e o) H)
    | some (.func (.func g) a b) => some (.val (.func (.func g) a b) H)
    | _ => none
  | .binOp op t x y _ => match opnd m x, opnd m y with
    | some a, some b => (binA P op t a b).map fun v => .val v H
    | _, _ => none
  | .unOp op _ x => match opnd m x with
    | some a => (unA op a).map fun v => .val v H
    | none => none
  | .convert s d x => match opnd m x with
    | some a => (convA P s d a H).map fun r => .val r.1 r.2
    | none => none
  | .makeFunc fn first cap => match opnds m first.toList, opnds m cap.toList with
    | some a, some b => some (.val (.func fn a b) H)
    | _, _ => none
  | .makeSlice t l c => match opnd m l, opnd m c with
    | some a, some b => (makeSliceA P t a b H).map fun r => .val r.1 r.2
    | _, _ => none
  | .slice t x lo hi none => match opnd m x, optOpnd m lo, optOpnd m hi with
    | some a, some l, some h => (sliceOp P t a l h).map fun v => .val v H
    | _, _, _ => none
  | .slice t x lo hi (some mx) => match opnd m x, optOpnd m lo, optOpnd m hi, opnd m mx with
    | some a, some l, some h, some k => (sliceOp3 P t a l h (some k)).map fun v => .val v H
    | _, _, _, _ => none
  | .fieldAddr s x f => match opnd m x, fieldOf P s f with
    | some (.ptr t (some r)), some fd => match size? P fd.type with
      | some (_ + 1) => some (.val (.ptr t (some (r.to fd.offset))) H)
      | _ => none
    | some (.eptr t l e o), some fd => match size? P fd.type with
      | some (_ + 1) => some (.val (.eptr t l e (o + fd.offset)) H)
      | _ => none
    | _, _ => none
  | .field s x f => match opnd m x, fieldOf P s f with
    | some (.agg cs), some fd => (partA P fd.type cs fd.offset).map fun v => .val v H
    | _, _ => none
  | .indexAddr t x i => match opnd m x, opnd m i with
    | some a, some b => (indexAddrA P t a b).map fun v => .val v H
    | _, _ => none
  | .index t x i => match opnd m x, opnd m i with
    | some a, some b => (indexA P t a b).map fun v => .val v H
    | _, _ => none
  | .extract x i => match opnd m x with
    | some (.tup vs) => (vs[i]?).map fun v => .val v H
    | _ => none
  | .call c => callA P c m H
  | _ => none

/-- Is an operation performed? -/
def guardA (ops : Array Oper) (o : Oper) (m : Tm) : Option Bool :=
  match o.guard with
  | none => some true
  | some (j, want) => match ops[j]? with
    | some oj => match oj.dst with
      | some d => match m.get d with
        | some (.bool _ b) => some (b == want)
        | some (.tup []) => some false
        | _ => none
      | none => none
    | none => none

abbrev Caller := FuncId → List AV → Heap → Option (AV × Heap)

/-- One operation of a region. -/
def stepA (P : Program) (cl : Caller) (ops : Array Oper) (o : Oper) (m : Tm) (H : Heap) : Option (Tm × Heap) :=
  match guardA ops o m with
  | none => none
  | some false => (m.dst o.dst (.tup [])).map fun m' => (m', H)
  | some true => match opA P o.op m H with
    | none => none
    | some (.val v H') => (m.dst o.dst v).map fun m' => (m', H')
    | some (.enter f args) => match cl f args H with
      | none => none
      | some (v, H') => (m.dst o.dst v).map fun m' => (m', H')

/-- A bool that has been tried hangs on nothing any more. -/
def coolD (dst : Option Nat) (d : Nat) (b : Bool) (m : Tm) : Tm := match dst with
  | none => { n := m.n, t := m.t.set d (.bool false b) }
  | some e => bif Nat.beq e d then m else { n := m.n, t := m.t.set d (.bool false b) }
def coolX (x : Operand) (b : Bool) (m : Tm) : Tm := match x with
  | .tmp d => coolD none d b m
  | _ => m
def coolGuard (ops : Array Oper) (o : Oper) (m m' : Tm) : Tm :=
  match o.guard with
  | none => m'
  | some (j, _) => match ops[j]? with
    | some oj => match oj.dst with
      | some d => match m.get d with
        | some (.bool _ b) => coolD o.dst d b m'
        | _ => m'
      | none => m'
    | none => m'
def coolPick (o : Oper) (m m' : Tm) : Tm :=
  match o.op with
  | .pick (.tmp c) _ _ => match m.get c with
    | some (.bool _ b) => coolD o.dst c b m'
    | _ => m'
  | _ => m'
def stepC (P : Program) (cl : Caller) (ops : Array Oper) (o : Oper) (m : Tm) (H : Heap) : Option (Tm × Heap) :=
  (stepA P cl ops o m H).map fun r => (coolPick o m (coolGuard ops o m r.1), r.2)

def opsA (P : Program) (cl : Caller) (ops : Array Oper) : List Oper → Tm → Heap → Option (Tm × Heap)
  | [], m, H => some (m, H)
  | o :: l, m, H => match stepC P cl ops o m H with
    | none => none
    | some (m', H') => opsA P cl ops l m' H'

/-! Are two alike? -/
mutual
def AV.beq : AV → AV → Bool
  | .bool t a, .bool t' b => t == t' && a == b
  | .int t k n, .int t' k' n' => t == t' && (decide (k = k') && decide (n = n'))
  | .str t a, .str t' b => t == t' && decide (a = b)
  | .ptr t a, .ptr t' b => t == t' && decide (a = b)
  | .slice t a n z, .slice t' b n' z' => t == t' && (decide (a = b) && decide (n = n') && decide (z = z'))
  | .map a, .map b => decide (a = b)
  | .func f a b, .func g c d => decide (f = g) && AV.beqL a c && AV.beqL b d
  | .nilFunc, .nilFunc => true
  | .nilIface, .nilIface => true
  | .agg a, .agg b => AV.beqL a b
  | .tup a, .tup b => AV.beqL a b
  | _, _ => false
def AV.beqL : List AV → List AV → Bool
  | [], [] => true
  | x :: xs, y :: ys => AV.beq x y && AV.beqL xs ys
  | _, _ => false
end
/-! A region whose order is open. -/
def isEff (P : Program) : Op → Bool
  | .store .. | .alloc .. | .box .. | .buildSlice .. | .makeSlice .. => true
  | .convert _ d _ => kindOf P d == 3
  | .call c => match c.callee with
    | .builtin .len | .builtin .max | .builtin .min => false
    | _ => true
  | _ => false
def readOf (o : Op) (m : Tm) : Option Nat :=
  match o with
  | .load _ a => match opnd m a with
    | some (.ptr _ (some r)) => some r.g
    | _ => none
  | .convert _ _ x => match opnd m x with
    | some (.slice _ (some r) _ _) => some r.g
    | _ => none
  | _ => none

/-- The table tells no more than the edges do: each operation ahead of another one is so by an edge, or by one of what is ahead of it. -/
def bitsOk (ops : Array Oper) (b : Array Nat) : Bool :=
  (List.range ops.size).all fun j => Nat.blt (b.getD j 0) (2 ^ j) && (List.range j).all fun i => !(b.getD j 0).testBit i || match ops[j]? with
    | some o => o.after.any fun e => Region.binds .any e && Nat.blt e.on j && (e.on == i || (b.getD e.on 0).testBit i)
    | none => false
def backEdges (ops : Array Oper) : Bool :=
  (List.range ops.size).all fun j => match ops[j]? with
    | some o => o.after.all fun e => !Region.binds .any e || Nat.blt e.on j
    | none => true
def looseOk (P : Program) (ops : Array Oper) (b : Array Nat) : Bool :=
  (List.range ops.size).all fun j => (List.range j).all fun i => (b.getD j 0).testBit i || match ops[i]?, ops[j]? with
    | some x, some y => x.apart ops y && y.apart ops x && !(isEff P x.op && isEff P y.op)
    | _, _ => true
def drawOk (P : Program) (ops : Array Oper) (b : Array Nat) : Bool := backEdges ops && bitsOk ops b && looseOk P ops b

/-- The run in the text's order; ahead of each operation the heap, and which row it reads. -/
def traceA (P : Program) (cl : Caller) (ops : Array Oper) : List Oper → Tm → Heap → Option (Tm × Heap × List (Heap × Option Nat))
  | [], m, H => some (m, H, [])
  | o :: l, m, H => match stepA P cl ops o m H with
    | none => none
    | some (m', H') => match traceA P cl ops l m' H' with
      | none => none
      | some (m2, H2, tr) => some (m2, H2, (H, readOf o.op m) :: tr)

/-- What a loose operation reads is not turned by what may come ahead of it or behind it. -/
def readsP (P : Program) (ops : Array Oper) (b : Array Nat) (tr : List (Heap × Option Nat)) (Hl : Heap) : Prop :=
  ∀ (i j g : Nat) (x y : Oper) (Hi Hj : Heap), ops[i]? = some x → ops[j]? = some y → isEff P y.op = true → (b.getD j 0).testBit i = false → (b.getD i 0).testBit j = false →
    tr[i]? = some (Hi, some g) → (tr[j]?).map (·.1) = some Hj → Hj.get g = (match tr[j + 1]? with
      | some (Hk, _) => Hk.get g
      | none => Hl.get g)

open Classical in
noncomputable def drawA (P : Program) (cl : Caller) (ops : Array Oper) (m : Tm) (H : Heap) : Option (Tm × Heap) :=
  if drawOk P ops (Region.before ops) = true then
    match traceA P cl ops ops.toList m H with
    | none => none
    | some (m', H', tr) => if readsP P ops (Region.before ops) tr H' then some (m', H') else none
  else none

inductive Out where
  | norm
  | exit (id : Nat)
  | ret
  deriving DecidableEq

noncomputable def execA (P : Program) (cl : Caller) : Nat → Code → Tm → Heap → Option (Out × Tm × Heap)
  | 0, _, _, _ => none
  | n + 1, c, m, H => match c with
    | .skip => some (.norm, m, H)
    | .label _ => some (.norm, m, H)
    | .region _ ops draw => (if draw = true then drawA P cl ops m H else opsA P cl ops ops.toList m H).map fun r => (.norm, r.1, r.2)
    | .seq a b => match execA P cl n a m H with
      | some (.norm, m', H') => execA P cl n b m' H'
      | r => r
    | .cond x a b => match opnd m x with
      | some (.bool _ true) => execA P cl n a (coolX x true m) H
      | some (.bool _ false) => execA P cl n b (coolX x false m) H
      | _ => none
    | .block id b => match execA P cl n b m H with
      | some (.exit id', m', H') => if id' = id then some (.norm, m', H') else some (.exit id', m', H')
      | r => r
    | .loop b => match execA P cl n b m H with
      | some (.norm, m', H') => execA P cl n (.loop b) m' H'
      | r => r
    | .exit id => some (.exit id, m, H)
    | .ret => some (.ret, m, H)
    | _ => none

/-! Calls. -/
def argsT : Nat → List AV → Trie AV → Trie AV
  | _, [], t => t
  | i, v :: l, t => argsT (i + 1) l (t.set i v)
def startM (n : Nat) (args : List AV) : Tm := { n := n, t := argsT 0 args .leaf }

def resA (P : Program) (m : Tm) (H : Heap) : List ResultVar → Option (List AV)
  | [] => some []
  | .tmp t :: l => match m.get t, resA P m H l with
    | some v, some vs => some (v :: vs)
    | _, _ => none
  | .cell a t :: l => match m.get a with
    | some (.ptr _ (some r)) => match loadV P H t r, resA P m H l with
      | some v, some vs => some (v :: vs)
      | _, _ => none
    | _ => none
def pack : List AV → AV
  | [v] => v
  | l => .tup l

noncomputable def bodyA (P : Program) (cl : Caller) (n : Nat) (fn : Func) (c : Code) (args : List AV) (H : Heap) : Option (AV × Heap) :=
  if args.length ≤ fn.ntmps then
    match execA P cl n c (startM fn.ntmps args) H with
    | some (.norm, m, H') => (resA P m H' fn.results.toList).map fun l => (pack l, H')
    | some (.ret, m, H') => (resA P m H' fn.results.toList).map fun l => (pack l, H')
    | _ => none
  else none

noncomputable def callA_ (P : Program) : Nat → Caller
  | 0 => fun _ _ _ => none
  | n + 1 => fun f args H => match P.funcs[f]? with
    | some fn => match fn.body with
      | some c => bodyA P (callA_ P n) n fn c args H
      | none => none
    | none => none

end Go.Vx
