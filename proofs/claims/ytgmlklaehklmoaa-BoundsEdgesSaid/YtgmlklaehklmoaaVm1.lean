/- An evaluator of the program's functions over a plain heap of rows: the words that the seat's proofs use. (A help: no statement of the seat is proved here.) -/
import Derived.Orders
namespace Go.Vm

/-- A place: a row's number, a cell's number in it. -/
structure Ref where
  g : Nat
  i : Nat
  deriving DecidableEq

inductive AV where
  | bool (b : Bool)
  | int (k : IntKind) (n : Int)
  | str (s : List UInt8)
  | ptr (r : Option Ref)
  | slice (r : Option Ref) (len sz : Nat)
  | map (r : Option Nat)
  | func (fn : Fn) (first captured : List AV)
  | nilFunc
  | nilIface
  | agg (cs : List AV)
  | tup (vs : List AV)
  deriving Inhabited

def AV.cells : AV → List AV
  | .agg cs => cs
  | v => [v]

/-- May it stand in one cell? -/
def AV.cell : AV → Bool
  | .agg _ => false
  | .tup _ => false
  | _ => true

/-- A table by number. -/
inductive Trie (α : Type) where
  | leaf
  | node (v : Option α) (l r : Trie α)

def Trie.get {α : Type} : Trie α → Nat → Option α
  | .leaf, _ => none
  | .node v l r, n => bif Nat.beq n 0 then v else bif Nat.beq (n % 2) 1 then l.get (n / 2) else r.get (n / 2 - 1)

def Trie.val {α : Type} : Trie α → Option α
  | .leaf => none
  | .node v _ _ => v
def Trie.left {α : Type} : Trie α → Trie α
  | .leaf => .leaf
  | .node _ l _ => l
def Trie.right {α : Type} : Trie α → Trie α
  | .leaf => .leaf
  | .node _ _ r => r

def Trie.setF {α : Type} : Nat → Trie α → Nat → α → Trie α
  | 0, t, _, _ => t
  | k + 1, t, n, a => bif Nat.beq n 0 then .node (some a) t.left t.right
      else bif Nat.beq (n % 2) 1 then .node t.val (t.left.setF k (n / 2) a) t.right
      else .node t.val t.left (t.right.setF k (n / 2 - 1) a)

def Trie.set {α : Type} (t : Trie α) (n : Nat) (a : α) : Trie α := t.setF (n + 1) n a

theorem nbeq_yes {a b : Nat} (h : a = b) : Nat.beq a b = true := by subst h; simp
theorem nbeq_no {a b : Nat} (h : ¬ a = b) : Nat.beq a b = false := by
  cases e : Nat.beq a b with
  | false => rfl
  | true => exact absurd (Nat.eq_of_beq_eq_true e) h

theorem Trie.get_leaf {α : Type} (n : Nat) : (Trie.leaf : Trie α).get n = none := by simp [Trie.get]

theorem Trie.get_node {α : Type} (v : Option α) (l r : Trie α) (n : Nat) :
    (Trie.node v l r).get n = if n = 0 then v else if n % 2 = 1 then l.get (n / 2) else r.get (n / 2 - 1) := by
  rw [Trie.get]
  by_cases h : n = 0
  · rw [nbeq_yes h, if_pos h]; rfl
  · rw [nbeq_no h, if_neg h]
    by_cases h1 : n % 2 = 1
    · rw [nbeq_yes h1, if_pos h1]; rfl
    · rw [nbeq_no h1, if_neg h1]; rfl

theorem Trie.eta {α : Type} (t : Trie α) (n : Nat) : (Trie.node t.val t.left t.right).get n = t.get n := by
  cases t with
  | leaf => simp [Trie.val, Trie.left, Trie.right, Trie.get_node, Trie.get_leaf]
  | node v l r => rfl

theorem Trie.get_setF {α : Type} (k : Nat) : ∀ (t : Trie α) (n m : Nat) (a : α), n < k → (t.setF k n a).get m = if m = n then some a else t.get m := by
  induction k with
  | zero => intro t n m a h; omega
  | succ k ih =>
    intro t n m a h
    rw [← Trie.eta t m, Trie.setF]
    by_cases h0 : n = 0
    · rw [nbeq_yes h0, cond_true, Trie.get_node, Trie.get_node]
      subst h0
      by_cases e : m = 0
      · rw [if_pos e, if_pos e]
      · simp only [if_neg e]
    · rw [nbeq_no h0, cond_false]
      by_cases h1 : n % 2 = 1
      · rw [nbeq_yes h1, cond_true, Trie.get_node, Trie.get_node, ih _ _ _ _ (by omega)]
        by_cases e : m = n
        · rw [if_neg (by omega), if_pos (by omega), if_pos (by omega), if_pos e]
        · rw [if_neg e]
          by_cases e0 : m = 0
          · rw [if_pos e0, if_pos e0]
          · rw [if_neg e0, if_neg e0]
            by_cases e1 : m % 2 = 1
            · rw [if_pos e1, if_pos e1, if_neg (by omega)]
            · rw [if_neg e1, if_neg e1]
      · rw [nbeq_no h1, cond_false, Trie.get_node, Trie.get_node, ih _ _ _ _ (by omega)]
        by_cases e : m = n
        · rw [if_neg (by omega), if_neg (by omega), if_pos (by omega), if_pos e]
        · rw [if_neg e]
          by_cases e0 : m = 0
          · rw [if_pos e0, if_pos e0]
          · rw [if_neg e0, if_neg e0]
            by_cases e1 : m % 2 = 1
            · rw [if_pos e1, if_pos e1]
            · rw [if_neg e1, if_neg e1, if_neg (by omega)]

theorem Trie.get_set {α : Type} (t : Trie α) (n m : Nat) (a : α) : (t.set n a).get m = if m = n then some a else t.get m :=
  Trie.get_setF (n + 1) t n m a (by omega)
theorem Trie.get_set_eq {α : Type} (t : Trie α) (n : Nat) (a : α) : (t.set n a).get n = some a := by rw [Trie.get_set, if_pos rfl]
theorem Trie.get_set_ne {α : Type} (t : Trie α) (n m : Nat) (a : α) (h : m ≠ n) : (t.set n a).get m = t.get m := by rw [Trie.get_set, if_neg h]

/-- A row. -/
inductive AObj where
  | dead
  | cells (cs : List AV) (elem : TypeId) (ro : Bool)

structure Heap where
  n : Nat
  t : Trie AObj

def Heap.get (H : Heap) (g : Nat) : Option AObj := H.t.get g
def Heap.set (H : Heap) (g : Nat) (o : AObj) : Heap := { n := H.n, t := H.t.set g o }
def Heap.push (H : Heap) (o : AObj) : Heap := { n := H.n + 1, t := H.t.set H.n o }
theorem Heap.get_set (H : Heap) (g h : Nat) (o : AObj) : (H.set g o).get h = if h = g then some o else H.get h := Trie.get_set ..
theorem Heap.get_push (H : Heap) (h : Nat) (o : AObj) : (H.push o).get h = if h = H.n then some o else H.get h := Trie.get_set ..
@[simp] theorem Heap.n_set (H : Heap) (g : Nat) (o : AObj) : (H.set g o).n = H.n := rfl
@[simp] theorem Heap.n_push (H : Heap) (o : AObj) : (H.push o).n = H.n + 1 := rfl

/-! The variables of a call: how many, what they hold. -/
structure Tm where
  n : Nat
  t : Trie AV

def Tm.get (m : Tm) (i : Nat) : Option AV := m.t.get i
def Tm.put (m : Tm) (i : Nat) (v : AV) : Option Tm := bif Nat.blt i m.n then some { n := m.n, t := m.t.set i v } else none
def Tm.dst (m : Tm) : Option Nat → AV → Option Tm
  | none, _ => some m
  | some i, v => m.put i v

/-! Types. -/
def isAgg? (P : Program) (t : TypeId) : Option Bool :=
  match P.underlying t with
  | none => none
  | some (.struct _) => some true
  | some (.array _ _) => some true
  | some _ => some false
def size? (P : Program) (t : TypeId) : Option Nat := (P.info? t).map (·.size)
def bytes? (P : Program) (t : TypeId) : Option Nat := (P.info? t).map (·.bytes)

/-! Constants. -/
def ofCell : Value → Option AV
  | .bool b => some (.bool b)
  | .int k n => some (.int k n)
  | .string s => some (.str s.data.toList)
  | .pointer none => some (.ptr none)
  | .slice none 0 0 => some (.slice none 0 0)
  | .map none => some (.map none)
  | .nilFunc => some .nilFunc
  | .nilIface => some .nilIface
  | _ => none
def ofCells : List Value → Option (List AV)
  | [] => some []
  | v :: l => match ofCell v, ofCells l with
    | some a, some as => some (a :: as)
    | _, _ => none
def ofConst : Value → Option AV
  | .agg cs => (ofCells cs.toList).map .agg
  | .tuple vs => if vs.size = 0 then some (.tup []) else none
  | v => ofCell v
def zero? (P : Program) (t : TypeId) : Option AV := (P.info? t).bind fun i => i.zero.bind ofConst

def opnd (m : Tm) : Operand → Option AV
  | .tmp t => m.get t
  | .const v => ofConst v
  | .global _ => none
  | .func f => some (.func (.func f) [] [])
def opnds (m : Tm) : List Operand → Option (List AV)
  | [] => some []
  | x :: l => match opnd m x, opnds m l with
    | some a, some as => some (a :: as)
    | _, _ => none

/-! Memory. -/
def splice (cs : List AV) (i : Nat) (vs : List AV) : List AV := cs.take i ++ vs ++ cs.drop (i + vs.length)
def loadV (P : Program) (H : Heap) (t : TypeId) (r : Ref) : Option AV :=
  match H.get r.g with
  | some (.cells cs _ _) =>
    match isAgg? P t with
    | some true => match size? P t with
      | some s => if r.i + s ≤ cs.length then some (.agg ((cs.drop r.i).take s)) else none
      | none => none
    | some false => cs[r.i]?
    | none => none
  | _ => none
def storeV (P : Program) (H : Heap) (t : TypeId) (r : Ref) (v : AV) : Option Heap :=
  match H.get r.g with
  | some (.cells cs e false) => match size? P t with
    | some s => if v.cells.length = s ∧ r.i + s ≤ cs.length ∧ v.cells.all AV.cell = true then some (H.set r.g (.cells (splice cs r.i v.cells) e false)) else none
    | none => none
  | _ => none

/-! Numbers, texts. -/
def arith (op : BinOp) (k : IntKind) (a b : Int) : Option AV :=
  match op with
  | .add => some (.int k (k.wrap (a + b)))
  | .sub => some (.int k (k.wrap (a - b)))
  | .mul => some (.int k (k.wrap (a * b)))
  | .quo => if b = 0 then none else some (.int k (k.wrap (a.tdiv b)))
  | .rem => if b = 0 then none else some (.int k (a.tmod b))
  | .and => some (.int k (k.wrap (BitVec.ofInt k.bits a &&& BitVec.ofInt k.bits b).toNat))
  | .or => some (.int k (k.wrap (BitVec.ofInt k.bits a ||| BitVec.ofInt k.bits b).toNat))
  | .xor => some (.int k (k.wrap (BitVec.ofInt k.bits a ^^^ BitVec.ofInt k.bits b).toNat))
  | .andNot => some (.int k (k.wrap (BitVec.ofInt k.bits a &&& ~~~ (BitVec.ofInt k.bits b)).toNat))
  | .eql => some (.bool (a == b))
  | .neq => some (.bool (a != b))
  | .lss => some (.bool (decide (a < b)))
  | .leq => some (.bool (decide (a ≤ b)))
  | .gtr => some (.bool (decide (a > b)))
  | .geq => some (.bool (decide (a ≥ b)))
  | _ => none
def shiftA (op : BinOp) (k : IntKind) (a b : Int) : Option AV :=
  if b < 0 then none else
  match op with
  | .shl => some (.int k (k.wrap (a * 2 ^ min b.toNat k.bits)))
  | .shr => some (.int k (a.fdiv (2 ^ min b.toNat k.bits)))
  | _ => none
def strA (op : BinOp) (a b : List UInt8) : Option AV :=
  match op with
  | .add => if ((a.length + b.length : Nat) : Int) ≤ 9223372036854775807 then some (.str (a ++ b)) else none
  | .eql => some (.bool (a == b))
  | .neq => some (.bool (!(a == b)))
  | .lss => some (.bool (Op.bytesLess a b))
  | .leq => some (.bool (Op.bytesLess a b || a == b))
  | .gtr => some (.bool (!(Op.bytesLess a b || a == b)))
  | .geq => some (.bool (!(Op.bytesLess a b)))
  | _ => none

/-- Is a type one of pointers, slices, maps, functions? -/
def kindOf (P : Program) (t : TypeId) : Nat :=
  match P.underlying t with
  | some .bool => 1
  | some (.pointer _) => 2
  | some (.slice _) => 3
  | some (.map _ _) => 4
  | some (.func _ _ _) => 5
  | some (.int _) => 6
  | some .string => 7
  | some (.struct _) => 8
  | _ => 0

/-- Structs of whole numbers, bools and texts are held against one another field by field. -/
def fieldEq (P : Program) (t : TypeId) : AV → AV → Option Bool
  | .bool a, .bool b => if kindOf P t = 1 then some (a == b) else none
  | .int k a, .int k' b => if kindOf P t = 6 ∧ k = k' then some (a == b) else none
  | .str a, .str b => if kindOf P t = 7 then some (a == b) else none
  | _, _ => none
def fieldsEq (P : Program) : Nat → List Field → List AV → List AV → Option Bool
  | _, [], [], [] => some true
  | off, f :: fs, x :: xs, y :: ys =>
    if f.offset = off ∧ (f.name == "_") = false then
      match fieldEq P f.type x y with
      | some true => fieldsEq P (off + 1) fs xs ys
      | r => r
    else none
  | _, _, _, _ => none
def structEq (P : Program) (t : TypeId) (xs ys : List AV) : Option Bool :=
  match P.underlying t with
  | some (.struct fs) => if P.stoodInHeld t = false ∧ P.eqGuardType P.depth t = false then fieldsEq P 0 fs.toList xs ys else none
  | _ => none

def sameA (P : Program) (t : TypeId) (x y : AV) : Option Bool :=
  match x, y with
  | .bool a, .bool b => if kindOf P t = 1 then some (a == b) else none
  | .ptr none, .ptr b => if kindOf P t = 2 then some b.isNone else none
  | .ptr (some _), .ptr none => if kindOf P t = 2 then some false else none
  | .slice none _ _, .slice b _ _ => if kindOf P t = 3 then some b.isNone else none
  | .slice (some _) _ _, .slice none _ _ => if kindOf P t = 3 then some false else none
  | .map none, .map b => if kindOf P t = 4 then some b.isNone else none
  | .map (some _), .map none => if kindOf P t = 4 then some false else none
  | .nilFunc, .nilFunc => if kindOf P t = 5 then some true else none
  | .nilFunc, .func _ _ _ => if kindOf P t = 5 then some false else none
  | .func _ _ _, .nilFunc => if kindOf P t = 5 then some false else none
  | .agg a, .agg b => structEq P t a b
  | _, _ => none

def binA (P : Program) (op : BinOp) (t : TypeId) (x y : AV) : Option AV :=
  match x, y with
  | .int k a, .int k' b => match op with
    | .shl | .shr => shiftA op k a b
    | _ => if k = k' then arith op k a b else none
  | .str a, .str b => strA op a b
  | x, y => match op with
    | .eql => (sameA P t x y).map .bool
    | .neq => (sameA P t x y).map fun b => .bool (!b)
    | _ => none

def unA (op : UnOp) (x : AV) : Option AV :=
  match op, x with
  | .neg, .int k n => some (.int k (k.wrap (0 - n)))
  | .xor, .int k n => arith .xor k (if k.signed then -1 else k.max) n
  | .not, .bool b => some (.bool !b)
  | _, _ => none

def bytesAV (s : List UInt8) : List AV := s.map fun b => .int .u8 b.toNat
def strOfAV : List AV → Option (List UInt8)
  | [] => some []
  | .int .u8 n :: l => match strOfAV l with
    | some s => some (UInt8.ofNat n.toNat :: s)
    | none => none
  | _ :: _ => none

/-- A row's cells, from a place on. -/
def rowAt (H : Heap) (r : Ref) (n : Nat) : Option (List AV) :=
  match H.get r.g with
  | some (.cells cs _ _) => if r.i + n ≤ cs.length then some ((cs.drop r.i).take n) else none
  | _ => none
def sliceCells (H : Heap) : AV → Option (List AV)
  | .slice none _ _ => some []
  | .slice (some r) n sz => rowAt H r (n * sz)
  | _ => none

def isU8 (P : Program) (e : TypeId) : Bool :=
  match P.underlying e with
  | some (.int .u8) => true
  | _ => false
def convA (P : Program) (src dst : TypeId) (x : AV) (H : Heap) : Option (AV × Heap) :=
  match P.underlying src, P.underlying dst, x with
  | some (.int _), some (.int k), .int _ n => some (.int k (k.wrap n), H)
  | some .string, some .string, .str s => some (.str s, H)
  | some .string, some (.slice e), .str s =>
    if isU8 P e = true ∧ s.length ≤ 140737488355328 then some (.slice (some ⟨H.n, 0⟩) s.length 1, H.push (.cells (bytesAV s) e false)) else none
  | some (.slice e), some .string, .slice r n sz =>
    if isU8 P e = true ∧ sz ≤ 1 then
      match sliceCells H (.slice r n 1) with
      | some cs => (strOfAV cs).map fun s => (.str s, H)
      | none => none
    else none
  | _, _, _ => none

def fieldOf (P : Program) (s : TypeId) (f : Nat) : Option Field :=
  match P.underlying s with
  | some (.struct fields) => fields[f]?
  | _ => none
def partA (P : Program) (t : TypeId) (cs : List AV) (off : Nat) : Option AV :=
  match isAgg? P t, size? P t with
  | some true, some s => if off + s ≤ cs.length then some (.agg ((cs.drop off).take s)) else none
  | some false, some _ => cs[off]?
  | _, _ => none

/-- Parts laid into cells. -/
def fillA (place : Nat → Option (Nat × Nat)) (cells : List AV) : List (Nat × AV) → Option (List AV)
  | [] => some cells
  | (i, v) :: rest =>
    match place i with
    | none => none
    | some (off, size) => if v.cells.length = size ∧ off + size ≤ cells.length then fillA place (splice cells off v.cells) rest else none
def placesA (P : Program) : List Field → Option (List (Nat × Nat))
  | [] => some []
  | f :: fs => match size? P f.type, placesA P fs with
    | some s, some l => some ((f.offset, s) :: l)
    | _, _ => none
def partsA (m : Tm) : List (Nat × Operand) → Option (List (Nat × AV))
  | [] => some []
  | (i, x) :: l => match opnd m x, partsA m l with
    | some a, some as => some ((i, a) :: as)
    | _, _ => none
def zerosA (z : List AV) : Nat → List AV
  | 0 => []
  | n + 1 => z ++ zerosA z n

def sliceElem (P : Program) (t : TypeId) : Option TypeId :=
  match P.underlying t with
  | some (.slice e) => some e
  | _ => none

def boundOf (d : Nat) : Option AV → Option Int
  | none => some (d : Int)
  | some (.int _ n) => some n
  | _ => none
def optOpnd (m : Tm) : Option Operand → Option (Option AV)
  | none => some none
  | some x => (opnd m x).map some

def sliceOp (P : Program) (t : TypeId) (x : AV) (lo hi : Option AV) : Option AV :=
  match P.underlying t, x with
  | some .string, .str s => match boundOf 0 lo, boundOf s.length hi with
    | some l, some h => if 0 ≤ l ∧ l ≤ h ∧ h ≤ (s.length : Int) then some (.str ((s.take h.toNat).drop l.toNat)) else none
    | _, _ => none
  | some (.slice e), .slice r n sz => match boundOf 0 lo, boundOf n hi with
    | some l, some h =>
      if 0 ≤ l ∧ l ≤ h ∧ h ≤ (n : Int) then
        match size? P e with
        | none => none
        | some s => match r with
          | none => some (.slice none 0 sz)
          | some r => if s = sz then some (.slice (some ⟨r.g, r.i + l.toNat * sz⟩) (h - l).toNat sz) else none
      else none
    | _, _ => none
  | _, _ => none

def indexAddrA (P : Program) (t : TypeId) (x ix : AV) : Option AV :=
  match P.underlying t, x, ix with
  | some (.slice e), .slice (some r) n _, .int _ i => match size? P e with
    | some s => if 0 ≤ i ∧ i < (n : Int) then some (.ptr (some ⟨r.g, r.i + i.toNat * s⟩)) else none
    | none => none
  | some (.array n e), .ptr (some r), .int _ i => match size? P e with
    | some s => if 0 ≤ i ∧ i < (n : Int) then some (.ptr (some ⟨r.g, r.i + i.toNat * s⟩)) else none
    | none => none
  | _, _, _ => none
def indexA (P : Program) (t : TypeId) (x ix : AV) : Option AV :=
  match P.underlying t, x, ix with
  | some .string, .str s, .int _ i => if 0 ≤ i then (s[i.toNat]?).map fun b => .int .u8 b.toNat else none
  | some (.array n e), .agg cs, .int _ i => match size? P e with
    | some s => if 0 ≤ i ∧ i < (n : Int) then partA P e cs (i.toNat * s) else none
    | none => none
  | _, _, _ => none

def lenA (P : Program) (t : TypeId) (x : AV) : Option AV :=
  match P.underlying t, x with
  | some .string, .str s => some (.int .i64 s.length)
  | some (.slice _), .slice _ n _ => some (.int .i64 n)
  | some (.array n _), _ => some (.int .i64 n)
  | _, _ => none
def max2A : AV → AV → Option AV
  | .int k x, .int _ y => some (.int k (if y > x then y else x))
  | _, _ => none
def min2A : AV → AV → Option AV
  | .int k x, .int _ y => some (.int k (if y < x then y else x))
  | _, _ => none
def foldA (f : AV → AV → Option AV) : AV → List AV → Option AV
  | x, [] => some x
  | x, y :: l => match f x y with
    | some z => foldA f z l
    | none => none

/-- What is appended: its cells, how many. -/
def srcCells (H : Heap) (sz : Nat) : AV → Option (List AV × Nat)
  | .slice none _ _ => some ([], 0)
  | .slice (some r) n z => if z = sz then (rowAt H r (n * sz)).map fun l => (l, n) else none
  | .str s => if sz = 1 then some (bytesAV s, s.length) else none
  | _ => none
def appendA (P : Program) (t : TypeId) (s x : AV) (H : Heap) : Option (AV × Heap) :=
  match sliceElem P t with
  | none => none
  | some e => match size? P e, bytes? P e, zero? P e with
    | some sz, some by_, some ze =>
      if sz = 0 ∨ by_ = 0 ∨ ze.cells.length ≠ sz then none else
      match srcCells H sz x with
      | none => none
      | some (new, n) =>
        if n = 0 then
          match s with
          | .slice r m z => if (r.isSome → z = sz) then some (.slice r m z, H) else none
          | _ => none
        else match s with
        | .slice none _ _ => if n * by_ ≤ 140737488355328 ∧ new.all AV.cell = true then some (.slice (some ⟨H.n, 0⟩) n sz, H.push (.cells new e false)) else none
        | .slice (some r) m z =>
          if z = sz then
            match H.get r.g, rowAt H r (m * sz) with
            | some (.cells _ _ false), some old =>
              if (m + n) * by_ ≤ 140737488355328 ∧ new.all AV.cell = true then some (.slice (some ⟨H.n, 0⟩) (m + n) sz, (H.set r.g .dead).push (.cells (old ++ new) e false)) else none
            | _, _ => none
          else none
        | _ => none
    | _, _, _ => none

def makeSliceA (P : Program) (t : TypeId) (l c : AV) (H : Heap) : Option (AV × Heap) :=
  match sliceElem P t, l, c with
  | some e, .int .i64 l, .int .i64 c => match size? P e, bytes? P e, zero? P e with
    | some sz, some by_, some z =>
      if sz ≠ 0 ∧ z.cells.length = sz ∧ 0 ≤ l ∧ l ≤ c ∧ c * by_ ≤ 140737488355328 ∧ c ≤ 140737488355328 ∧ z.cells.all AV.cell = true then
        some (.slice (some ⟨H.n, 0⟩) l.toNat sz, H.push (.cells (zerosA z.cells l.toNat) e false)) else none
    | _, _, _ => none
  | _, _, _ => none

/-- What a call comes to. -/
inductive Got where
  | val (v : AV) (H : Heap)
  | enter (f : FuncId) (args : List AV)

def srcKind (P : Program) (u : TypeId) : AV → Bool
  | .str _ => kindOf P u == 7
  | .slice _ _ _ => kindOf P u == 3
  | _ => false
def builtinA (P : Program) (b : Builtin) (ts : List TypeId) (args : List AV) (H : Heap) : Option Got :=
  match b, ts, args with
  | .len, t :: _, [x] => (lenA P t x).map fun v => .val v H
  | .max, _, x :: l => (foldA max2A x l).map fun v => .val v H
  | .min, _, x :: l => (foldA min2A x l).map fun v => .val v H
  | .append, [t, u], [s, x] => if srcKind P u x = true then (appendA P t s x H).map fun r => .val r.1 r.2 else none
  | _, _, _ => none

def callA (P : Program) (c : Call) (m : Tm) (H : Heap) : Option Got :=
  match opnds m c.args.toList with
  | none => none
  | some args => match c.callee with
    | .builtin b => builtinA P b c.argTypes.toList args H
    | .value f => match opnd m f with
      | some (.func (.func g) first cap) => match P.funcs[g]? with
        | some fn => if fn.name ≠ "runtime.NumGoroutine" ∧ fn.body.isSome = true then some (.enter g (first ++ args ++ cap)) else none
        | none => none
      | _ => none
    | .invoke _ _ => none

/-- One operation: its value (none: it has none), the heap; or the call that it makes. -/
def opA (P : Program) (o : Op) (m : Tm) (H : Heap) : Option Got :=
  match o with
  | .move x | .assign x => (opnd m x).map fun v => .val v H
  | .pick c a b => match opnd m c with
    | some (.bool true) => (opnd m a).map fun v => .val v H
    | some (.bool false) => (opnd m b).map fun v => .val v H
    | _ => none
  | .alloc t => match zero? P t with
    | some z => if z.cells.all AV.cell = true then some (.val (.ptr (some ⟨H.n, 0⟩)) (H.push (.cells z.cells t false))) else none
    | none => none
  | .box t x => match opnd m x with
    | some v => if v.cells.all AV.cell = true then some (.val (.ptr (some ⟨H.n, 0⟩)) (H.push (.cells v.cells t false))) else none
    | none => none
  | .build t parts => match zero? P t, partsA m parts.toList, P.underlying t with
    | some z, some ps, some (.struct fields) => match placesA P fields.toList with
      | some pl => (fillA (fun i => pl[i]?) z.cells ps).map fun cs => .val (.agg cs) H
      | none => none
    | some z, some ps, some (.array _ e) => match size? P e with
      | some s => (fillA (fun i => some (i * s, s)) z.cells ps).map fun cs => .val (.agg cs) H
      | none => none
    | _, _, _ => none
  | .buildSlice t n parts => match sliceElem P t, partsA m parts.toList with
    | some e, some ps => match size? P e, zero? P e with
      | some s, some z =>
        if s ≠ 0 ∧ n * s ≤ 16777216 ∧ z.cells.length = s then
          match fillA (fun i => some (i * s, s)) (zerosA z.cells n) ps with
          | some cs => if cs.all AV.cell = true ∧ cs.length = n * s then some (.val (.slice (some ⟨H.n, 0⟩) n s) (H.push (.cells cs e false))) else none
          | none => none
        else none
      | _, _ => none
    | _, _ => none
  | .load t a => match opnd m a with
    | some (.ptr (some r)) => (loadV P H t r).map fun v => .val v H
    | _ => none
  | .store t a x => match opnd m a, opnd m x with
    | some (.ptr (some r)), some v => (storeV P H t r v).map fun H' => .val (.tup []) H'
    | _, _ => none
  | .nilCheck x => match opnd m x with
    | some (.ptr (some r)) => some (.val (.ptr (some r)) H)
    | some (.func (.func g) a b) => some (.val (.func (.func g) a b) H)
    | _ => none
  | .binOp op t x y _ => match opnd m x, opnd m y with
    | some a, some b => (binA P op t a b).map fun v => .val v H
    | _, _ => none
  | .unOp op _ x => match opnd m x with
    | some a => (unA op a).map fun v => .val v H
    | none => none
  | .convert s d x => match opnd m x with
    | some a => (convA P s d a H).map fun r => .val r.1 r.2
    | none => none
  | .makeFunc fn first cap => match opnds m first.toList, opnds m cap.toList with
    | some a, some b => some (.val (.func fn a b) H)
    | _, _ => none
  | .makeSlice t l c => match opnd m l, opnd m c with
    | some a, some b => (makeSliceA P t a b H).map fun r => .val r.1 r.2
    | _, _ => none
  | .slice t x lo hi none => match opnd m x, optOpnd m lo, optOpnd m hi with
    | some a, some l, some h => (sliceOp P t a l h).map fun v => .val v H
    | _, _, _ => none
  | .fieldAddr s x f => match opnd m x, fieldOf P s f with
    | some (.ptr (some r)), some fd => match size? P fd.type with
      | some (_ + 1) => some (.val (.ptr (some ⟨r.g, r.i + fd.offset⟩)) H)
      | _ => none
    | _, _ => none
  | .field s x f => match opnd m x, fieldOf P s f with
    | some (.agg cs), some fd => (partA P fd.type cs fd.offset).map fun v => .val v H
    | _, _ => none
  | .indexAddr t x i => match opnd m x, opnd m i with
    | some a, some b => (indexAddrA P t a b).map fun v => .val v H
    | _, _ => none
  | .index t x i => match opnd m x, opnd m i with
    | some a, some b => (indexA P t a b).map fun v => .val v H
    | _, _ => none
  | .extract x i => match opnd m x with
    | some (.tup vs) => (vs[i]?).map fun v => .val v H
    | _ => none
  | .call c => callA P c m H
  | _ => none

/-- Is an operation performed? -/
def guardA (ops : Array Oper) (o : Oper) (m : Tm) : Option Bool :=
  match o.guard with
  | none => some true
  | some (j, want) => match ops[j]? with
    | some oj => match oj.dst with
      | some d => match m.get d with
        | some (.bool b) => some (b == want)
        | _ => none
      | none => none
    | none => none

abbrev Caller := FuncId → List AV → Heap → Option (AV × Heap)

/-- One operation of a region. -/
def stepA (P : Program) (cl : Caller) (ops : Array Oper) (o : Oper) (m : Tm) (H : Heap) : Option (Tm × Heap) :=
  match guardA ops o m with
  | none => none
  | some false => (m.dst o.dst (.tup [])).map fun m' => (m', H)
  | some true => match opA P o.op m H with
    | none => none
    | some (.val v H') => (m.dst o.dst v).map fun m' => (m', H')
    | some (.enter f args) => match cl f args H with
      | none => none
      | some (v, H') => (m.dst o.dst v).map fun m' => (m', H')

def opsA (P : Program) (cl : Caller) (ops : Array Oper) : List Oper → Tm → Heap → Option (Tm × Heap)
  | [], m, H => some (m, H)
  | o :: l, m, H => match stepA P cl ops o m H with
    | none => none
    | some (m', H') => opsA P cl ops l m' H'

/-! Are two alike? -/
mutual
def AV.beq : AV → AV → Bool
  | .bool a, .bool b => a == b
  | .int k n, .int k' n' => decide (k = k') && decide (n = n')
  | .str a, .str b => decide (a = b)
  | .ptr a, .ptr b => decide (a = b)
  | .slice a n z, .slice b n' z' => decide (a = b) && decide (n = n') && decide (z = z')
  | .map a, .map b => decide (a = b)
  | .func f a b, .func g c d => decide (f = g) && AV.beqL a c && AV.beqL b d
  | .nilFunc, .nilFunc => true
  | .nilIface, .nilIface => true
  | .agg a, .agg b => AV.beqL a b
  | .tup a, .tup b => AV.beqL a b
  | _, _ => false
def AV.beqL : List AV → List AV → Bool
  | [], [] => true
  | x :: xs, y :: ys => AV.beq x y && AV.beqL xs ys
  | _, _ => false
end
def AObj.beq : Option AObj → Option AObj → Bool
  | none, none => true
  | some .dead, some .dead => true
  | some (.cells a e r), some (.cells b e' r') => AV.beqL a b && decide (e = e') && decide (r = r')
  | _, _ => false

/-! A region whose order is open. -/
def isEff (P : Program) : Op → Bool
  | .store .. | .alloc .. | .box .. | .buildSlice .. | .makeSlice .. => true
  | .convert _ d _ => kindOf P d == 3
  | .call c => match c.callee with
    | .builtin .len | .builtin .max | .builtin .min => false
    | _ => true
  | _ => false
def readOf (o : Op) (m : Tm) : Option Nat :=
  match o with
  | .load _ a => match opnd m a with
    | some (.ptr (some r)) => some r.g
    | _ => none
  | .convert _ _ x => match opnd m x with
    | some (.slice (some r) _ _) => some r.g
    | _ => none
  | _ => none

/-- The table tells no more than the edges do: each operation ahead of another one is so by an edge, or by one of what is ahead of it. -/
def bitsOk (ops : Array Oper) (b : Array Nat) : Bool :=
  (List.range ops.size).all fun j => Nat.blt (b.getD j 0) (2 ^ j) && (List.range j).all fun i => !(b.getD j 0).testBit i || match ops[j]? with
    | some o => o.after.any fun e => Region.binds .any e && Nat.blt e.on j && (e.on == i || (b.getD e.on 0).testBit i)
    | none => false
def backEdges (ops : Array Oper) : Bool :=
  (List.range ops.size).all fun j => match ops[j]? with
    | some o => o.after.all fun e => !Region.binds .any e || Nat.blt e.on j
    | none => true
def looseOk (P : Program) (ops : Array Oper) (b : Array Nat) : Bool :=
  (List.range ops.size).all fun j => (List.range j).all fun i => (b.getD j 0).testBit i || match ops[i]?, ops[j]? with
    | some x, some y => x.apart ops y && y.apart ops x && !(isEff P x.op && isEff P y.op)
    | _, _ => true
def drawOk (P : Program) (ops : Array Oper) (b : Array Nat) : Bool := backEdges ops && bitsOk ops b && looseOk P ops b

/-- The run in the text's order; ahead of each operation the heap, and which row it reads. -/
def traceA (P : Program) (cl : Caller) (ops : Array Oper) : List Oper → Tm → Heap → Option (Tm × Heap × List (Heap × Option Nat))
  | [], m, H => some (m, H, [])
  | o :: l, m, H => match stepA P cl ops o m H with
    | none => none
    | some (m', H') => match traceA P cl ops l m' H' with
      | none => none
      | some (m2, H2, tr) => some (m2, H2, (H, readOf o.op m) :: tr)

/-- What a loose operation reads is not turned by what may come ahead of it or behind it. -/
def readsOk (P : Program) (ops : Array Oper) (b : Array Nat) (tr : List (Heap × Option Nat)) (Hl : Heap) : Bool :=
  (List.range ops.size).all fun j => match ops[j]? with
    | some y => !isEff P y.op || (List.range ops.size).all fun i =>
        (b.getD j 0).testBit i || (b.getD i 0).testBit j || match tr[i]?, tr[j]? with
          | some (_, some g), some (Hj, _) => AObj.beq (Hj.get g) (match tr[j + 1]? with
            | some (Hk, _) => Hk.get g
            | none => Hl.get g)
          | _, _ => true
    | none => true

def drawA (P : Program) (cl : Caller) (ops : Array Oper) (m : Tm) (H : Heap) : Option (Tm × Heap) :=
  if drawOk P ops (Region.before ops) = true then
    match traceA P cl ops ops.toList m H with
    | none => none
    | some (m', H', tr) => if readsOk P ops (Region.before ops) tr H' = true then some (m', H') else none
  else none

inductive Out where
  | norm
  | exit (id : Nat)
  | ret
  deriving DecidableEq

def execA (P : Program) (cl : Caller) : Nat → Code → Tm → Heap → Option (Out × Tm × Heap)
  | 0, _, _, _ => none
  | n + 1, c, m, H => match c with
    | .skip => some (.norm, m, H)
    | .label _ => some (.norm, m, H)
    | .region _ ops draw => (if draw = true then drawA P cl ops m H else opsA P cl ops ops.toList m H).map fun r => (.norm, r.1, r.2)
    | .seq a b => match execA P cl n a m H with
      | some (.norm, m', H') => execA P cl n b m' H'
      | r => r
    | .cond x a b => match opnd m x with
      | some (.bool true) => execA P cl n a m H
      | some (.bool false) => execA P cl n b m H
      | _ => none
    | .block id b => match execA P cl n b m H with
      | some (.exit id', m', H') => if id' = id then some (.norm, m', H') else some (.exit id', m', H')
      | r => r
    | .loop b => match execA P cl n b m H with
      | some (.norm, m', H') => execA P cl n (.loop b) m' H'
      | r => r
    | .exit id => some (.exit id, m, H)
    | .ret => some (.ret, m, H)
    | _ => none

/-! Calls. -/
def argsT : Nat → List AV → Trie AV → Trie AV
  | _, [], t => t
  | i, v :: l, t => argsT (i + 1) l (t.set i v)
def startM (n : Nat) (args : List AV) : Tm := { n := n, t := argsT 0 args .leaf }

def resA (P : Program) (m : Tm) (H : Heap) : List ResultVar → Option (List AV)
  | [] => some []
  | .tmp t :: l => match m.get t, resA P m H l with
    | some v, some vs => some (v :: vs)
    | _, _ => none
  | .cell a t :: l => match m.get a with
    | some (.ptr (some r)) => match loadV P H t r, resA P m H l with
      | some v, some vs => some (v :: vs)
      | _, _ => none
    | _ => none
def pack : List AV → AV
  | [v] => v
  | l => .tup l

def bodyA (P : Program) (cl : Caller) (n : Nat) (fn : Func) (c : Code) (args : List AV) (H : Heap) : Option (AV × Heap) :=
  if args.length ≤ fn.ntmps then
    match execA P cl n c (startM fn.ntmps args) H with
    | some (.norm, m, H') => (resA P m H' fn.results.toList).map fun l => (pack l, H')
    | some (.ret, m, H') => (resA P m H' fn.results.toList).map fun l => (pack l, H')
    | _ => none
  else none

def callA_ (P : Program) : Nat → Caller
  | 0 => fun _ _ _ => none
  | n + 1 => fun f args H => match P.funcs[f]? with
    | some fn => match fn.body with
      | some c => bodyA P (callA_ P n) n fn c args H
      | none => none
    | none => none

end Go.Vm
