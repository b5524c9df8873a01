/- Patterns of values and rows: one state of the evaluator seen as another one, in which the rows are few and known. (A help: no statement of the seat is proved here.) -/
import Derived.Test.YtgmlklaehklmoaaVxH
set_option linter.unusedVariables false
set_option linter.unusedSimpArgs false
namespace Go.Vx

/-- What values are: data, places in rows. -/
inductive VP where
  | bool
  | int (k : IntKind)
  | num (k : IntKind)
  | byte
  | str
  | vec (t : Ty)
  | lit (v : AV)
  | ptr (g e z o : Nat)
  | sl (g z : Nat)
  | part (g z : Nat)
  | nil
  | cat (a b : VP)
  | agg (l : VP)
  | tup (l : VP)
  | func (f : Fn) (a b : VP)
@[reducible] def VP.den : VP → Type
  | .bool => Bool
  | .int _ => Int
  | .num _ => Int
  | .byte => UInt8
  | .str => List UInt8
  | .vec t => List t.den
  | .lit _ => Unit
  | .ptr _ _ _ _ => Unit
  | .sl _ _ => Unit
  | .part _ _ => Nat × Nat
  | .nil => Unit
  | .cat a b => a.den × b.den
  | .agg l => l.den
  | .tup l => l.den
  | .func _ a b => a.den × b.den
def encV : (p : VP) → p.den → (Nat → Nat) → List AV
  | .bool, b, _ => [.bool true b]
  | .int k, n, _ => [.int true k n]
  | .num k, n, _ => [.int false k n]
  | .byte, b, _ => [.int true .u8 (b.toNat : Int)]
  | .str, s, _ => [.str true s]
  | .vec t, l, _ => [.vec t l]
  | .lit v, _, _ => [v]
  | .ptr g e z o, _, _ => [.ptr false (some ⟨g, e, z, o⟩)]
  | .sl g z, _, len => [.slice true (some ⟨g, 0, z, 0⟩) (len g) z]
  | .part g z, x, _ => [.slice true (some ⟨g, x.1, z, 0⟩) x.2 z]
  | .nil, _, _ => []
  | .cat a b, x, len => encV a x.1 len ++ encV b x.2 len
  | .agg l, x, len => [.agg (encV l x len)]
  | .tup l, x, len => [.tup (encV l x len)]
  | .func f a b, x, len => [.func f (encV a x.1 len) (encV b x.2 len)]

/-- What a row is. -/
inductive RP where
  | vec (t : Ty) (e : TypeId) (ro : Bool)
  | cells (p : VP) (e : TypeId) (ro : Bool)
  | dead
@[reducible] def RP.den : RP → Type
  | .vec t _ _ => List t.den
  | .cells p _ _ => p.den
  | .dead => Unit
@[reducible] def rowsDen : List RP → Type
  | [] => Unit
  | r :: rs => r.den × rowsDen rs
def RP.len : (r : RP) → r.den → Nat
  | .vec _ _ _, l => l.length
  | _, _ => 0
def lens : (rs : List RP) → rowsDen rs → Nat → Nat
  | [], _, _ => 0
  | r :: rs, x, i => match i with
    | 0 => r.len x.1
    | i + 1 => lens rs x.2 i
def encR : (r : RP) → r.den → (Nat → Nat) → AObj
  | .vec t e ro, l, _ => .vec t l e ro
  | .cells p e ro, x, len => .cells (encV p x len) e ro
  | .dead, _, _ => .dead
def encRs : (rs : List RP) → rowsDen rs → (Nat → Nat) → List AObj
  | [], _, _ => []
  | r :: rs, x, len => encR r x.1 len :: encRs rs x.2 len
theorem encRs_length : (rs : List RP) → (x : rowsDen rs) → (len : Nat → Nat) → (encRs rs x len).length = rs.length
  | [], _, _ => rfl
  | r :: rs, x, len => by simp only [encRs, List.length_cons, encRs_length rs]

/-- A heap of rows. -/
def pushes : Heap → List AObj → Heap
  | H, [] => H
  | H, o :: l => pushes (H.push o) l
theorem pushes_n : (H : Heap) → (l : List AObj) → (pushes H l).n = H.n + l.length
  | H, [] => rfl
  | H, o :: l => by simp only [pushes, pushes_n, Heap.n_push, List.length_cons]; omega
theorem pushes_get : (H : Heap) → (l : List AObj) → (i : Nat) → (pushes H l).get i = if i < H.n then H.get i else if i < H.n + l.length then l[i - H.n]? else H.get i
  | H, [], i => by simp only [pushes, List.length_nil, Nat.add_zero]; split <;> simp_all
  | H, o :: l, i => by
    simp only [pushes, pushes_get, Heap.n_push, Heap.get_push, List.length_cons]
    by_cases h1 : i < H.n
    · rw [if_pos (by omega), if_neg (by omega), if_pos h1]
    · by_cases h2 : i = H.n
      · subst h2; rw [if_pos (by omega), if_pos rfl, if_neg h1, if_pos (by omega)]; simp
      · rw [if_neg (by omega), if_neg h1, if_neg h2]
        by_cases h3 : i < H.n + 1 + l.length
        · rw [if_pos h3, if_pos (by omega), show i - H.n = (i - (H.n + 1)) + 1 from by omega, List.getElem?_cons_succ]
        · rw [if_neg h3, if_neg (by omega)]

structure Dom where
  rows : List RP
  vals : VP
@[reducible] def Dom.den (D : Dom) : Type := rowsDen D.rows × D.vals.den
def Dom.len (D : Dom) (x : D.den) : Nat → Nat := lens D.rows x.1
/-! The same, pairs taken apart first. -/
def encVF : (p : VP) → p.den → (Nat → Nat) → List AV → List AV
  | .bool, b, _, r => .bool true b :: r
  | .int k, n, _, r => .int true k n :: r
  | .num k, n, _, r => .int false k n :: r
  | .byte, b, _, r => .int true .u8 (b.toNat : Int) :: r
  | .str, s, _, r => .str true s :: r
  | .vec t, l, _, r => .vec t l :: r
  | .lit v, _, _, r => v :: r
  | .ptr g e z o, _, _, r => .ptr false (some ⟨g, e, z, o⟩) :: r
  | .sl g z, _, len, r => .slice true (some ⟨g, 0, z, 0⟩) (len g) z :: r
  | .part g z, x, _, r => (match x with
    | (e, n) => .slice true (some ⟨g, e, z, 0⟩) n z :: r)
  | .nil, _, _, r => r
  | .cat a b, x, len, r => (match x with
    | (u, v) => encVF a u len (encVF b v len r))
  | .agg l, x, len, r => .agg (encVF l x len []) :: r
  | .tup l, x, len, r => .tup (encVF l x len []) :: r
  | .func f a b, x, len, r => (match x with
    | (u, v) => .func f (encVF a u len []) (encVF b v len []) :: r)
theorem encVF_eq : (p : VP) → (x : p.den) → (len : Nat → Nat) → (r : List AV) → encVF p x len r = encV p x len ++ r
  | .bool, _, _, _ => rfl
  | .int _, _, _, _ => rfl
  | .num _, _, _, _ => rfl
  | .byte, _, _, _ => rfl
  | .str, _, _, _ => rfl
  | .vec _, _, _, _ => rfl
  | .lit _, _, _, _ => rfl
  | .ptr _ _ _ _, _, _, _ => rfl
  | .sl _ _, _, _, _ => rfl
  | .part _ _, _, _, _ => rfl
  | .nil, _, _, _ => rfl
  | .cat a b, (u, v), len, r => by simp only [encVF, encV, encVF_eq a, encVF_eq b, List.append_assoc]
  | .agg l, x, len, r => by simp only [encVF, encV, encVF_eq l, List.append_nil, List.singleton_append]
  | .tup l, x, len, r => by simp only [encVF, encV, encVF_eq l, List.append_nil, List.singleton_append]
  | .func f a b, (u, v), len, r => by simp only [encVF, encV, encVF_eq a, encVF_eq b, List.append_nil, List.singleton_append]
def encRF : (r : RP) → r.den → (Nat → Nat) → AObj
  | .vec t e ro, l, _ => .vec t l e ro
  | .cells p e ro, x, len => .cells (encVF p x len []) e ro
  | .dead, _, _ => .dead
theorem encRF_eq (r : RP) (x : r.den) (len : Nat → Nat) : encRF r x len = encR r x len := by
  cases r <;> simp [encRF, encR, encVF_eq]
def encRsF : (rs : List RP) → rowsDen rs → (Nat → Nat) → List AObj
  | [], _, _ => []
  | r :: rs, x, len => match x with
    | (u, v) => encRF r u len :: encRsF rs v len
theorem encRsF_eq : (rs : List RP) → (x : rowsDen rs) → (len : Nat → Nat) → encRsF rs x len = encRs rs x len
  | [], _, _ => rfl
  | r :: rs, (u, v), len => by simp only [encRsF, encRs, encRF_eq, encRsF_eq rs]
def lensF : (rs : List RP) → rowsDen rs → Nat → Nat
  | [], _, _ => 0
  | r :: rs, x, i => match x, i with
    | (u, _), 0 => r.len u
    | (_, v), i + 1 => lensF rs v i
theorem lensF_eq : (rs : List RP) → (x : rowsDen rs) → lensF rs x = lens rs x
  | [], _ => rfl
  | r :: rs, (u, v) => by
    funext i
    cases i with
    | zero => rfl
    | succ i => simp only [lensF, lens, lensF_eq rs]
def Dom.heap (D : Dom) (x : D.den) : Heap := match x with
  | (r, _) => pushes Heap.empty (encRsF D.rows r (lensF D.rows r))
def Dom.args (D : Dom) (x : D.den) : List AV := match x with
  | (r, v) => encVF D.vals v (lensF D.rows r) []
theorem Dom.heap_eq (D : Dom) (x : D.den) : D.heap x = pushes Heap.empty (encRs D.rows x.1 (D.len x)) := by
  obtain ⟨r, v⟩ := x
  simp only [Dom.heap, encRsF_eq, lensF_eq, Dom.len]
theorem Dom.args_eq (D : Dom) (x : D.den) : D.args x = encV D.vals x.2 (D.len x) := by
  obtain ⟨r, v⟩ := x
  simp only [Dom.args, encVF_eq, lensF_eq, Dom.len, List.append_nil]
theorem Dom.heap_n (D : Dom) (x : D.den) : (D.heap x).n = D.rows.length := by
  rw [Dom.heap_eq, pushes_n, encRs_length]; simp [Heap.empty]
theorem Dom.heap_get (D : Dom) (x : D.den) (i : Nat) : (D.heap x).get i = (encRs D.rows x.1 (D.len x))[i]? := by
  simp only [Dom.heap_eq, pushes_get, Heap.empty, Nat.not_lt_zero, if_false, Nat.zero_add, Nat.sub_zero]
  split
  · rfl
  · rename_i h
    rw [List.getElem?_eq_none (by omega)]
    simp [Heap.get, Trie.get_leaf]

/-! Matching. -/
/-- Where a row of the pattern comes from. -/
inductive Src where
  | whole (g : Nat)
  | win (g e n z : Nat)
  | nil
  | inl (t : Ty) (l : List t.den)
abbrev Rho := List (Nat × Src)
def Rho.find : Rho → Nat → Option Src
  | [], _ => none
  | (i, s) :: l, g => match Nat.beq i g with
    | true => some s
    | false => Rho.find l g
theorem Rho.find_cons (i g : Nat) (s : Src) (l : Rho) : Rho.find ((i, s) :: l) g = if i = g then some s else l.find g := by
  simp only [Rho.find]
  by_cases h : i = g
  · subst h; rw [if_pos rfl]; simp
  · rw [if_neg h, nbeq_no h]

/-- The same value, whatever its tag. -/
def litOk : AV → AV → Bool
  | .bool _ a, .bool t b => !t && a == b
  | .int _ k n, .int t k' n' => !t && (decide (k = k') && decide (n = n'))
  | .str _ s, .str t s' => !t && decide (s = s')
  | .ptr _ none, .ptr _ none => true
  | .map none, .map none => true
  | .nilFunc, .nilFunc => true
  | .nilIface, .nilIface => true
  | .func f [] [], .func g [] [] => decide (f = g)
  | _, _ => false

def rowLen (H : Heap) (g z : Nat) : Option Nat := match H.get g with
  | some (.vec t l _ _) => if t.z = z then some l.length else none
  | _ => none

def matBool (l : List AV) : Option (Bool × List AV) := decBool l
def matLit (v : AV) (l : List AV) : Option (List AV) := match l with
  | u :: l => if litOk v u = true then some l else none
  | [] => none
def matPtr (g e z o : Nat) (l : List AV) (ρ : Rho) : Option (List AV × Rho) := match l with
  | .ptr _ (some r) :: l => if r.e = e ∧ r.z = z ∧ r.o = o then match ρ.find g with
      | none => some (l, (g, .whole r.g) :: ρ)
      | some (.whole g') => if g' = r.g then some (l, ρ) else none
      | _ => none
    else none
  | _ => none
def matSl (H : Heap) (g z : Nat) (l : List AV) (ρ : Rho) : Option (List AV × Rho) := match l with
  | .slice _ none _ _ :: l => match ρ.find g with
      | none => some (l, (g, .nil) :: ρ)
      | some .nil => some (l, ρ)
      | _ => none
  | .slice _ (some r) n z' :: l => if z' = z ∧ r.z = z ∧ r.o = 0 then match ρ.find g with
      | none => some (l, (g, .win r.g r.e n z) :: ρ)
      | some (.whole g') => if g' = r.g ∧ r.e = 0 ∧ rowLen H r.g z = some n then some (l, ρ) else none
      | _ => none
    else none
  | .vec t x :: l => if t.z = z then match ρ.find g with
      | none => some (l, (g, .inl t x) :: ρ)
      | _ => none
    else none
  | _ => none
/-- Data, or a part of a frozen row. -/
def matDat (H : Heap) (t : Ty) : List AV → Option (List t.den × List AV)
  | .slice _ (some r) n z :: l => match H.get r.g with
    | some (.fro t' L _) => if h : t' = t then (if r.z = t'.z ∧ r.o = 0 ∧ z = t'.z ∧ r.e + n ≤ L.length then some (h ▸ (L.drop r.e).take n, l) else none) else none
    | _ => none
  | l => decSl t l
def matPart (g z : Nat) (l : List AV) (ρ : Rho) : Option ((Nat × Nat) × List AV × Rho) := match l with
  | .slice _ (some r) n z' :: l => if z' = z ∧ r.z = z ∧ r.o = 0 then match ρ.find g with
      | none => some ((r.e, n), l, (g, .whole r.g) :: ρ)
      | some (.whole g') => if g' = r.g then some ((r.e, n), l, ρ) else none
      | _ => none
    else none
  | _ => none
def matV (H : Heap) : (p : VP) → List AV → Rho → Option (p.den × List AV × Rho)
  | .bool, l, ρ => (decBool l).map fun r => (r.1, r.2, ρ)
  | .int k, l, ρ => (decInt k l).map fun r => (r.1, r.2, ρ)
  | .num k, l, ρ => (decInt k l).map fun r => (r.1, r.2, ρ)
  | .byte, l, ρ => (decByte l).map fun r => (r.1, r.2, ρ)
  | .str, l, ρ => (decStr l).map fun r => (r.1, r.2, ρ)
  | .vec t, l, ρ => (matDat H t l).map fun r => (r.1, r.2, ρ)
  | .lit v, l, ρ => (matLit v l).map fun r => ((), r, ρ)
  | .ptr g e z o, l, ρ => (matPtr g e z o l ρ).map fun r => ((), r)
  | .sl g z, l, ρ => (matSl H g z l ρ).map fun r => ((), r)
  | .part g z, l, ρ => matPart g z l ρ
  | .nil, l, ρ => some ((), l, ρ)
  | .cat a b, l, ρ => match matV H a l ρ with
    | some (x, l', ρ') => match matV H b l' ρ' with
      | some (y, l'', ρ'') => some ((x, y), l'', ρ'')
      | none => none
    | none => none
  | .agg p, l, ρ => match l with
    | .agg cs :: l => match matV H p cs ρ with
      | some (x, [], ρ') => some (x, l, ρ')
      | _ => none
    | _ => none
  | .tup p, l, ρ => match l with
    | .tup cs :: l => match matV H p cs ρ with
      | some (x, [], ρ') => some (x, l, ρ')
      | _ => none
    | _ => none
  | .func f p q, l, ρ => match l with
    | .func f' xs ys :: l => if f' = f then match matV H p xs ρ with
        | some (x, [], ρ') => match matV H q ys ρ' with
          | some (y, [], ρ'') => some ((x, y), l, ρ'')
          | _ => none
        | _ => none
      else none
    | _ => none

def matVec (H : Heap) (t : Ty) (ro : Bool) : Src → Option (List t.den)
  | .whole g => match H.get g with
    | some (.vec t' L _ ro') => if h : t' = t then (if ro = false → ro' = false then some (h ▸ L) else none) else none
    | _ => none
  | .win g e n z => if z = t.z ∧ z ≠ 0 then match H.get g with
      | some (.vec t' L _ ro') => if h : t' = t then
          (match ro with
            | true => if e + n ≤ L.length then some (h ▸ (L.drop e).take n) else none
            | false => if e = 0 ∧ n = L.length ∧ ro' = false then some (h ▸ L) else none) else none
      | some (.fro t' L _) => if h : t' = t then
          (match ro with
            | true => if e + n ≤ L.length then some (h ▸ (L.drop e).take n) else none
            | false => none) else none
      | some (.cells cs _ ro') => match ro with
        | true => if e * z + n * z ≤ cs.length then decL t ((cs.drop (e * z)).take (n * z)) else none
        | false => if e = 0 ∧ n * z = cs.length ∧ ro' = false then decL t cs else none
      | _ => none
    else none
  | .nil => some []
  | .inl t' l => if h : t' = t then (if ro = true ∧ t.z ≠ 0 then some (h ▸ l) else none) else none
def deadOk : Option AObj → Bool
  | some (.cells _ _ ro) => !ro
  | some (.vec _ _ _ ro) => !ro
  | some (.fro _ _ _) => false
  | _ => true
def matR (H : Heap) : (r : RP) → Option Src → Rho → Option (r.den × Rho)
  | .dead, _, ρ => some ((), ρ)
  | .vec t _ ro, s, ρ => match s with
    | some s => (matVec H t ro s).map fun l => (l, ρ)
    | none => none
  | .cells p _ ro, s, ρ => match s with
    | some (.whole g) => match H.get g with
      | some (.cells cs _ ro') => if ro = false → ro' = false then match matV H p cs ρ with
          | some (x, [], ρ') => some (x, ρ')
          | _ => none
        else none
      | _ => none
    | _ => none
def matRs (H : Heap) : (rs : List RP) → Nat → Rho → Option (rowsDen rs × Rho)
  | [], _, ρ => some ((), ρ)
  | r :: rs, i, ρ => match matR H r (ρ.find i) ρ with
    | some (x, ρ') => match matRs H rs (i + 1) ρ' with
      | some (xs, ρ'') => some ((x, xs), ρ'')
      | none => none
    | none => none
def Src.row? : Option Src → Option Nat
  | some (.whole g) => some g
  | some (.win g _ _ _) => some g
  | _ => none
def RP.rw : RP → Bool
  | .vec _ _ ro => !ro
  | .cells _ _ ro => !ro
  | .dead => false
def RP.dead? : RP → Bool
  | .dead => true
  | _ => false
/-- The rows that are not dead: where each comes from, may it be written? -/
def froms (ρ : Rho) : List RP → Nat → List (Option Nat × Bool)
  | [], _ => []
  | r :: rs, i => (bif r.dead? then (none, false) else (Src.row? (ρ.find i), r.rw)) :: froms ρ rs (i + 1)
def noneOf (g : Nat) : List (Option Nat × Bool) → Bool
  | [] => true
  | (some g', _) :: l => !(Nat.beq g g') && noneOf g l
  | (none, _) :: l => noneOf g l
def noRw (g : Nat) : List (Option Nat × Bool) → Bool
  | [] => true
  | (some g', b) :: l => !(Nat.beq g g' && b) && noRw g l
  | (none, _) :: l => noRw g l
/-- A row that may be written comes from a row of its own. -/
def injOk : List (Option Nat × Bool) → Bool
  | [] => true
  | (some g, true) :: l => noneOf g l && injOk l
  | (some g, false) :: l => noRw g l && injOk l
  | (none, _) :: l => injOk l
/-- Rows that are dead come from nowhere, or are given up. -/
def deads (H : Heap) (ρ : Rho) : List RP → Nat → Bool
  | [], _ => true
  | r :: rs, i => (match r.dead?, ρ.find i with
    | true, some (.whole g) => deadOk (H.get g)
    | true, some _ => false
    | _, _ => true) && deads H ρ rs (i + 1)
def below (n : Nat) : Rho → Bool
  | [] => true
  | (i, _) :: l => Nat.blt i n && below n l
/-- Is a row of a pattern there? -/
def Dom.live (D : Dom) (i : Nat) : Bool := match D.rows[i]? with
  | some r => !r.dead?
  | none => false
/-- The rows that are meant as a whole. -/
def VP.sls : VP → List Nat
  | .sl g _ => [g]
  | .cat a b => a.sls ++ b.sls
  | .agg l => l.sls
  | .tup l => l.sls
  | .func _ a b => a.sls ++ b.sls
  | _ => []
def RP.sls : RP → List Nat
  | .cells p _ _ => p.sls
  | _ => []
def rsSls : List RP → List Nat
  | [] => []
  | r :: rs => r.sls ++ rsSls rs
def slsOk (D : Dom) : Bool := (D.vals.sls ++ rsSls D.rows).all D.live
theorem encV_congr : (p : VP) → (x : p.den) → (len len' : Nat → Nat) → (∀ g, g ∈ p.sls → len g = len' g) → encV p x len = encV p x len'
  | .sl g z, x, len, len', h => by simp only [encV, h g (by simp [VP.sls])]
  | .cat a b, x, len, len', h => by
    simp only [encV]
    rw [encV_congr a x.1 len len' fun g hg => h g (by simp [VP.sls, hg]), encV_congr b x.2 len len' fun g hg => h g (by simp [VP.sls, hg])]
  | .agg l, x, len, len', h => by simp only [encV]; rw [encV_congr l x len len' fun g hg => h g (by simpa [VP.sls] using hg)]
  | .tup l, x, len, len', h => by simp only [encV]; rw [encV_congr l x len len' fun g hg => h g (by simpa [VP.sls] using hg)]
  | .func f a b, x, len, len', h => by
    simp only [encV]
    rw [encV_congr a x.1 len len' fun g hg => h g (by simp [VP.sls, hg]), encV_congr b x.2 len len' fun g hg => h g (by simp [VP.sls, hg])]
  | .bool, _, _, _, _ => rfl
  | .int _, _, _, _, _ => rfl
  | .num _, _, _, _, _ => rfl
  | .byte, _, _, _, _ => rfl
  | .str, _, _, _, _ => rfl
  | .vec _, _, _, _, _ => rfl
  | .lit _, _, _, _, _ => rfl
  | .ptr _ _ _ _, _, _, _, _ => rfl
  | .part _ _, _, _, _, _ => rfl
  | .nil, _, _, _, _ => rfl
theorem encRs_congr : (rs : List RP) → (x : rowsDen rs) → (len len' : Nat → Nat) → (∀ g, g ∈ rsSls rs → len g = len' g) → encRs rs x len = encRs rs x len'
  | [], _, _, _, _ => rfl
  | r :: rs, x, len, len', h => by
    simp only [encRs]
    rw [encRs_congr rs x.2 len len' fun g hg => h g (by simp [rsSls, hg])]
    congr 1
    cases r with
    | cells p e ro => simp only [encR]; rw [encV_congr p x.1 len len' fun g hg => h g (by simp [rsSls, RP.sls, hg])]
    | vec t e ro => rfl
    | dead => rfl
def Dom.mat (D : Dom) (vs : List AV) (H : Heap) (ρ0 : Rho) : Option (D.den × Rho) :=
  match matV H D.vals vs ρ0 with
  | some (xv, [], ρ1) => match matRs H D.rows 0 ρ1 with
    | some (xr, ρ) => if below D.rows.length ρ = true ∧ injOk (froms ρ D.rows 0) = true ∧ deads H ρ D.rows 0 = true ∧ slsOk D = true then some ((xr, xv), ρ) else none
    | none => none
  | _ => none

/-! What a match says. -/
/-- Values that are data alone. -/
def AV.data : AV → Bool
  | .bool _ _ => true
  | .int _ _ _ => true
  | .str _ _ => true
  | .vec _ _ => true
  | .eptr _ _ _ _ => true
  | _ => false
theorem enc_data : (t : Ty) → (x : t.den) → (enc t x).all AV.data = true
  | .bool, _ => rfl
  | .int _, _ => rfl
  | .byte, _ => rfl
  | .str, _ => rfl
  | .sl _, _ => rfl
  | .unit, _ => rfl
  | .pair a b, x => by simp only [enc, List.all_append, enc_data a, enc_data b, Bool.and_true]
theorem encL_data (t : Ty) (l : List t.den) : (encL t l).all AV.data = true := by
  simp only [encL, List.all_flatMap, enc_data]
  simp
theorem encL_data_at {t : Ty} {l : List t.den} {k : Nat} {v : AV} (h : (encL t l)[k]? = some v) : v.data = true :=
  List.all_eq_true.1 (encL_data t l) v (List.mem_of_getElem? h)
theorem VRel.data {N N' : Nat} {β β' : At} (hi : ∀ b o c, β.imm b o = some c → β'.imm b o = some c) : ∀ {v : AV} {c : Value}, VRel N β v c → v.data = true → VRel N' β' v c
  | _, _, .bool t b, _ => .bool t b
  | _, _, .int t k n, _ => .int t k n
  | _, _, .str t s b h, _ => .str t s b h
  | _, _, .vec t l cap a b o cs hn ha h h', _ => .vec t l cap a b o cs hn ha (fun k v hv => hi _ _ _ (h k v hv)) (fun k v hv => VRel.data hi (h' k v hv) (encL_data_at hv))
  | _, _, .eptr t l e p b o cs h h', _ => .eptr t l e p b o cs (fun k v hv => hi _ _ _ (h k v hv)) (fun k v hv => VRel.data hi (h' k v hv) (encL_data_at hv))
  | _, _, .pnil _, hd => by cases hd
  | _, _, .ptr _ _ _ _ _, hd => by cases hd
  | _, _, .snil _ _ _, hd => by cases hd
  | _, _, .slice _ _ _ _ _ _ _ _ _ _, hd => by cases hd
  | _, _, .mnil, hd => by cases hd
  | _, _, .func _ _ _ _ _ _ _, hd => by cases hd
  | _, _, .nilFunc, hd => by cases hd
  | _, _, .nilIface, hd => by cases hd
  | _, _, .agg _ _ _, hd => by cases hd
  | _, _, .tup _ _ _, hd => by cases hd

def Base.shift (b : Base) (k : Nat) : Base := if b.nil = true then b else { b with off := b.off + k, room := b.room - k }
theorem Base.shift_zero (b : Base) : b.shift 0 = b := by unfold Base.shift; split <;> simp
@[simp] theorem Base.shift_nil (b : Base) (k : Nat) : (b.shift k).nil = b.nil := by unfold Base.shift; split <;> rfl
theorem Base.shift_blk (b : Base) (k : Nat) : (b.shift k).blk = b.blk := by unfold Base.shift; split <;> rfl
def nilBase (room : Nat) : Base := ⟨0, 0, room, true⟩

/-- Where the data of a slice lie. -/
def InlOk (N : Nat) (β : At) (t : Ty) (l : List t.den) (b : Option Base) : Prop :=
  (l = [] ∧ b = some (nilBase 1)) ∨ (l ≠ [] ∧ ∃ (blk off room : Nat) (cs : Nat → Value), b = some ⟨blk, off, room, false⟩ ∧ l.length * t.z ≤ room ∧ ∀ k v, (encL t l)[k]? = some v → β.imm blk (off + k) = some (cs k) ∧ VRel N β v (cs k))
def SrcOk (N : Nat) (β : At) (s : Src) (b : Option Base) : Prop := match s with
  | .whole g => b = β g
  | .win g e _ z => b = (β g).map (fun b => b.shift (e * z)) ∧ ∀ b0, β g = some b0 → b0.nil = true ∨ e * z ≤ b0.room
  | .nil => b = some (nilBase 0)
  | .inl t l => InlOk N β t l b
def OkB (N : Nat) (β : At) (ρ : Rho) (B : Nat → Option Base) : Prop := ∀ g s, ρ.find g = some s → SrcOk N β s (B g)
def LenOk (H : Heap) (s : Src) (m : Nat) : Prop := match s with
  | .whole g => ∀ z n, rowLen H g z = some n → m = n
  | .win _ _ n _ => m = n
  | .nil => m = 0
  | .inl _ l => m = l.length
/-- A view of the rows. -/
structure View (H : Heap) (β : At) (ρ : Rho) (B : Nat → Option Base) (β1 : At) (n1 : Nat) (len : Nat → Nat) : Prop where
  imm : ∀ b o c, β.imm b o = some c → β1.imm b o = some c
  at_ : ∀ g s, ρ.find g = some s → g < n1 ∧ (β1 g = B g ∨ β1 g = none) ∧ LenOk H s (len g)
def Ext (ρ ρ' : Rho) : Prop := ∀ g s, ρ.find g = some s → ρ'.find g = some s
theorem Ext.refl (ρ : Rho) : Ext ρ ρ := fun _ _ h => h
theorem Ext.trans {a b c : Rho} (h : Ext a b) (k : Ext b c) : Ext a c := fun g s hs => k g s (h g s hs)
theorem Ext.cons {ρ : Rho} {g : Nat} {s : Src} (h : ρ.find g = none) : Ext ρ ((g, s) :: ρ) := fun g' s' hs => by
  rw [Rho.find_cons]
  split
  · rename_i e; subst e; rw [h] at hs; cases hs
  · exact hs
theorem View.less {H : Heap} {β β1 : At} {ρ ρ' : Rho} {B B' : Nat → Option Base} {n1 : Nat} {len : Nat → Nat} (h : View H β ρ' B' β1 n1 len) (he : Ext ρ ρ') (hB : ∀ g s, ρ.find g = some s → B' g = B g) : View H β ρ B β1 n1 len where
  imm := h.imm
  at_ := fun g s hs => by
    obtain ⟨h1, h2, h3⟩ := h.at_ g s (he g s hs)
    exact ⟨h1, by rw [← hB g s hs]; exact h2, h3⟩

/-- What a match of values says. -/
def Matched (H : Heap) (β : At) (ρ ρ' : Rho) (B : Nat → Option Base) (cs : List Value) (rest : List AV) (out : (Nat → Nat) → List AV) : Prop :=
  Ext ρ ρ' ∧ ∃ B' : Nat → Option Base, OkB H.n β ρ' B' ∧ (∀ g s, ρ.find g = some s → B' g = B g) ∧ ∃ cs1 cs2, cs = cs1 ++ cs2 ∧ VsRel H.n β rest cs2 ∧
    ∀ β1 n1 len, View H β ρ' B' β1 n1 len → VsRel n1 β1 (out len) cs1

theorem Matched.one {H : Heap} {β : At} {ρ : Rho} {B : Nat → Option Base} {c : Value} {cs : List Value} {rest : List AV} {out : (Nat → Nat) → AV} (hB : OkB H.n β ρ B) (hr : VsRel H.n β rest cs)
    (h : ∀ β1 n1 len, View H β ρ B β1 n1 len → VRel n1 β1 (out len) c) : Matched H β ρ ρ B (c :: cs) rest fun len => [out len] :=
  ⟨Ext.refl _, B, hB, fun _ _ _ => rfl, [c], cs, rfl, hr, fun β1 n1 len hv => .one (h β1 n1 len hv)⟩
theorem Matched.new {H : Heap} {β : At} {ρ : Rho} {B : Nat → Option Base} {c : Value} {cs : List Value} {rest : List AV} {out : (Nat → Nat) → AV} {g : Nat} {s : Src} {b : Option Base} (hB : OkB H.n β ρ B) (hf : ρ.find g = none) (hs : SrcOk H.n β s b) (hr : VsRel H.n β rest cs)
    (h : ∀ (β1 : At) n1 len, (∀ b o c, β.imm b o = some c → β1.imm b o = some c) → g < n1 → (β1 g = b ∨ β1 g = none) → LenOk H s (len g) → VRel n1 β1 (out len) c) : Matched H β ρ ((g, s) :: ρ) B (c :: cs) rest fun len => [out len] := by
  refine ⟨Ext.cons hf, fun i => if i = g then b else B i, fun g' s' hs' => ?_, fun g' s' hs' => ?_, [c], cs, rfl, hr, fun β1 n1 len hv => .one ?_⟩
  · rw [Rho.find_cons] at hs'
    split at hs'
    · rename_i e; subst e; cases hs'; simp only [if_true]; exact hs
    · rename_i e; simp only [if_neg (Ne.symm e)]; exact hB g' s' hs'
  · by_cases e : g' = g
    · subst e; rw [hf] at hs'; cases hs'
    · simp only [if_neg e]
  · obtain ⟨h1, h2, h3⟩ := hv.at_ g s (by rw [Rho.find_cons, if_pos rfl])
    simp only [if_true] at h2
    exact h β1 n1 len hv.imm h1 h2 h3

section mat
variable {H : Heap} {β : At} {w : World}

theorem litOk_sound {N N' : Nat} {β' : At} {v u : AV} {c : Value} (h : litOk v u = true) (hu : VRel N β u c) : VRel N' β' v c := by
  unfold litOk at h
  split at h
  · simp at h; rw [bool_of hu, h.2]; exact .bool _ _
  · simp at h; rw [int_of hu, h.2.1, h.2.2]; exact .int _ _ _
  · simp at h; obtain ⟨b, rfl, hb⟩ := str_of hu; exact .str _ _ _ (by rw [hb, h.2])
  · cases hu; exact .pnil _
  · cases hu; exact .mnil
  · cases hu; exact .nilFunc
  · cases hu; exact .nilIface
  · simp at h
    subst h
    cases hu with
    | func f xs ys cs ds h1 h2 =>
      have e1 : cs = #[] := by cases cs with | mk l => cases h1; rfl
      have e2 : ds = #[] := by cases ds with | mk l => cases h2; rfl
      subst e1; subst e2
      exact .func _ _ _ _ _ .nil .nil
  · cases h

/-- A ref to a whole row. -/
theorem whole_ptr {N n1 : Nat} {β1 : At} {g : Nat} {t : Bool} {r : Ref} {c : Value} (h : VRel N β (.ptr t (some r)) c) (hg : g < n1) (hb : β1 g = β r.g ∨ β1 g = none) : VRel n1 β1 (.ptr false (some ⟨g, r.e, r.z, r.o⟩)) c := by
  cases h with
  | ptr _ _ a h1 h2 =>
    refine .ptr _ _ _ hg fun b hb1 => ?_
    rcases hb with e | e
    · simp only at hb1; rw [e] at hb1; exact h2 b hb1
    · simp only at hb1; rw [e] at hb1; cases hb1
theorem whole_slice {N n1 : Nat} {β1 : At} {g : Nat} {t t' : Bool} {r : Ref} {n z : Nat} {c : Value} (h : VRel N β (.slice t (some r) n z) c) (hg : g < n1) (hb : β1 g = β r.g ∨ β1 g = none) : VRel n1 β1 (.slice t' (some ⟨g, r.e, r.z, r.o⟩) n z) c := by
  cases h with
  | slice _ _ _ _ cap a h1 hn hs h2 =>
    refine .slice _ _ _ _ _ _ hg hn hs fun b hb1 => ?_
    rcases hb with e | e
    · simp only at hb1; rw [e] at hb1; exact h2 b hb1
    · simp only at hb1; rw [e] at hb1; cases hb1
theorem SlAt.shift {b : Base} {i n cap z : Nat} {a : Option Addr} (h : SlAt b i n cap z a) : SlAt (b.shift i) 0 n cap z a := by
  unfold Base.shift
  by_cases hn : b.nil = true
  · rw [if_pos hn]
    exact ⟨h.1, fun h' => by rw [hn] at h'; cases h'⟩
  · rw [if_neg hn]
    have hn' : b.nil = false := by simpa using hn
    obtain ⟨h1, h2⟩ := h.2 hn'
    exact ⟨fun h' => absurd h' hn, fun _ => ⟨fun hc => by rw [h1 hc, Nat.add_zero], by simp only [Nat.zero_add]; omega⟩⟩
theorem win_slice {N n1 : Nat} {β1 : At} {g : Nat} {t t' : Bool} {r : Ref} {n z : Nat} {c : Value} (h : VRel N β (.slice t (some r) n z) c) (hz : r.z = z) (ho : r.o = 0) (hg : g < n1) (hb : β1 g = (β r.g).map (fun b => b.shift (r.e * z)) ∨ β1 g = none) :
    VRel n1 β1 (.slice t' (some ⟨g, 0, z, 0⟩) n z) c := by
  cases h with
  | slice _ _ _ _ cap a h1 hn hs h2 =>
    refine .slice _ _ _ _ _ _ hg hn hs fun b hb1 => ?_
    rcases hb with e | e
    · simp only at hb1
      rw [e] at hb1
      cases hq : β r.g with
      | none => rw [hq] at hb1; cases hb1
      | some b0 =>
        rw [hq] at hb1
        simp only [Option.map_some, Option.some.injEq] at hb1
        subst hb1
        have := (h2 b0 hq).shift
        have hi : r.i = r.e * z := by unfold Ref.i; rw [hz, ho, Nat.add_zero]
        rw [hi] at this
        simpa [Ref.i] using this
    · simp only at hb1; rw [e] at hb1; cases hb1

theorem win_room {N : Nat} {t : Bool} {r : Ref} {n z : Nat} {c : Value} (h : VRel N β (.slice t (some r) n z) c) (hz : r.z = z) (ho : r.o = 0) : SrcOk N β (.win r.g r.e n z) ((β r.g).map fun b : Base => b.shift (r.e * z)) := by
  refine ⟨rfl, fun b0 hb0 => ?_⟩
  cases h with
  | slice _ _ _ _ cap a h1 hn hs h2 =>
    cases hnil : b0.nil with
    | true => exact .inl rfl
    | false =>
      have := ((h2 b0 hb0).2 hnil).2
      have hi : r.i = r.e * z := by unfold Ref.i; rw [hz, ho, Nat.add_zero]
      exact .inr (by omega)
theorem matV_sound (hR : Rel β H w) : (p : VP) → {vs rest : List AV} → {ρ ρ' : Rho} → {x : p.den} → {B : Nat → Option Base} → {cs : List Value} → matV H p vs ρ = some (x, rest, ρ') → VsRel H.n β vs cs → OkB H.n β ρ B →
    Matched H β ρ ρ' B cs rest (encV p x)
  | .bool, vs, rest, ρ, ρ', x, B, cs, h, hv, hB => by
    simp only [matV] at h
    obtain ⟨⟨y, l⟩, hd, he⟩ := map_some h
    cases he
    unfold decBool at hd
    split at hd
    · cases hd
      cases hv with
      | cons _ c _ cs h1 h2 => exact Matched.one hB h2 fun β1 n1 len _ => by rw [bool_of h1]; exact .bool _ _
    · cases hd
  | .int k, vs, rest, ρ, ρ', x, B, cs, h, hv, hB => by
    simp only [matV] at h
    obtain ⟨⟨y, l⟩, hd, he⟩ := map_some h
    cases he
    unfold decInt at hd
    split at hd
    · split at hd
      · rename_i hk
        subst hk
        cases hd
        cases hv with
        | cons _ c _ cs h1 h2 => exact Matched.one hB h2 fun β1 n1 len _ => by rw [int_of h1]; exact .int _ _ _
      · cases hd
    · cases hd
  | .num k, vs, rest, ρ, ρ', x, B, cs, h, hv, hB => by
    simp only [matV] at h
    obtain ⟨⟨y, l⟩, hd, he⟩ := map_some h
    cases he
    unfold decInt at hd
    split at hd
    · split at hd
      · rename_i hk
        subst hk
        cases hd
        cases hv with
        | cons _ c _ cs h1 h2 => exact Matched.one hB h2 fun β1 n1 len _ => by rw [int_of h1]; exact .int _ _ _
      · cases hd
    · cases hd
  | .byte, vs, rest, ρ, ρ', x, B, cs, h, hv, hB => by
    simp only [matV] at h
    obtain ⟨⟨y, l⟩, hd, he⟩ := map_some h
    cases he
    unfold decByte at hd
    split at hd
    · rename_i n l
      split at hd
      · rename_i hc
        obtain ⟨rfl, h0, h3⟩ := hc
        cases hd
        cases hv with
        | cons _ c _ cs h1 h2 =>
          refine Matched.one hB h2 fun β1 n1 len _ => ?_
          rw [int_of h1]
          have : (((UInt8.ofNat n.toNat).toNat : Nat) : Int) = n := by simp; omega
          rw [this]
          exact .int _ _ _
      · cases hd
    · cases hd
  | .str, vs, rest, ρ, ρ', x, B, cs, h, hv, hB => by
    simp only [matV] at h
    obtain ⟨⟨y, l⟩, hd, he⟩ := map_some h
    cases he
    unfold decStr at hd
    split at hd
    · cases hd
      cases hv with
      | cons _ c _ cs h1 h2 => exact Matched.one hB h2 fun β1 n1 len _ => by obtain ⟨b, rfl, hb⟩ := str_of h1; exact .str _ _ _ hb
    · cases hd
  | .vec t, vs, rest, ρ, ρ', x, B, cs, h, hv, hB => by
    simp only [matV] at h
    obtain ⟨⟨y, l⟩, hd, he⟩ := map_some h
    cases he
    unfold matDat at hd
    split at hd
    · rename_i b r n z l'
      split at hd
      · rename_i t' L e hg
        split at hd
        · rename_i ht
          subst ht
          split at hd
          · rename_i hc
            cases hd
            cases hv with
            | cons _ c _ cs h1 h2 =>
              refine Matched.one hB h2 fun β1 n1 len hv => ?_
              exact (thaw_sound hR (t := t') hg (by unfold thawAt; rw [if_pos ⟨rfl, hc⟩]) h1).data hv.imm rfl
          · cases hd
        · cases hd
      · cases hd
    unfold decSl at hd
    split at hd
    · split at hd
      · rename_i ht
        subst ht
        cases hd
        cases hv with
        | cons _ c _ cs h1 h2 => exact Matched.one hB h2 fun β1 n1 len hv => h1.data hv.imm rfl
      · cases hd
    · split at hd
      · cases hd
        cases hv with
        | cons _ c _ cs h1 h2 =>
          refine Matched.one hB h2 fun β1 n1 len hv => ?_
          cases h1
          exact .vec t [] 0 _ 0 0 (fun _ => undef) (by simp) ⟨fun hc => by simp at hc, fun _ => rfl⟩ (fun k v hv => by simp [encL] at hv) (fun k v hv => by simp [encL] at hv)
      · cases hd
    · cases hd
  | .lit v, vs, rest, ρ, ρ', x, B, cs, h, hv, hB => by
    simp only [matV] at h
    obtain ⟨l, hd, he⟩ := map_some h
    cases he
    unfold matLit at hd
    split at hd
    · split at hd
      · rename_i hl
        cases hd
        cases hv with
        | cons _ c _ cs h1 h2 => exact Matched.one hB h2 fun β1 n1 len _ => litOk_sound hl h1
      · cases hd
    · cases hd
  | .ptr g e z o, vs, rest, ρ, ρ', x, B, cs, h, hv, hB => by
    simp only [matV] at h
    obtain ⟨l, hd, he⟩ := map_some h
    cases he
    unfold matPtr at hd
    split at hd
    · rename_i t r l
      split at hd
      · rename_i hc
        obtain ⟨rfl, rfl, rfl⟩ := hc
        cases hv with
        | cons _ c _ cs h1 h2 =>
          split at hd
          · rename_i hf
            cases hd
            exact Matched.new (b := β r.g) hB hf rfl h2 fun β1 n1 len _ hg hb _ => whole_ptr h1 hg hb
          · rename_i g' hf
            split at hd
            · rename_i hg'
              subst hg'
              cases hd
              refine Matched.one hB h2 fun β1 n1 len hv => ?_
              obtain ⟨q1, q2, _⟩ := hv.at_ g _ hf
              have hs : B g = β r.g := hB g _ hf
              rw [hs] at q2
              exact whole_ptr h1 q1 q2
            · cases hd
          · cases hd
      · cases hd
    · cases hd
  | .sl g z, vs, rest, ρ, ρ', x, B, cs, h, hv, hB => by
    simp only [matV] at h
    obtain ⟨l, hd, he⟩ := map_some h
    cases he
    unfold matSl at hd
    split at hd
    · rename_i t n z' l
      cases hv with
      | cons _ c _ cs h1 h2 =>
        split at hd
        · rename_i hf
          cases hd
          refine Matched.new (b := some (nilBase 0)) hB hf rfl h2 fun β1 n1 len _ hg hb hl => ?_
          cases h1 with
          | snil _ _ a =>
            have hl : len g = 0 := hl
            rw [hl]
            refine .slice _ _ _ _ _ _ hg (Nat.le_refl _) (fun _ => rfl) fun b hb1 => ?_
            rcases hb with e | e
            · simp only at hb1; rw [e] at hb1; cases hb1; exact ⟨fun _ => ⟨rfl, fun _ => rfl⟩, fun h => by cases h⟩
            · simp only at hb1; rw [e] at hb1; cases hb1
        · rename_i hf
          cases hd
          refine Matched.one hB h2 fun β1 n1 len hv => ?_
          obtain ⟨hg, hb, hl⟩ := hv.at_ g _ hf
          have hs : B g = some (nilBase 0) := hB g _ hf
          cases h1 with
          | snil _ _ a =>
            have hl : len g = 0 := hl
            rw [hl]
            refine .slice _ _ _ _ _ _ hg (Nat.le_refl _) (fun _ => rfl) fun b hb1 => ?_
            rcases hb with e | e
            · simp only at hb1; rw [e, hs] at hb1; cases hb1; exact ⟨fun _ => ⟨rfl, fun _ => rfl⟩, fun h => by cases h⟩
            · simp only at hb1; rw [e] at hb1; cases hb1
        · cases hd
    · rename_i t r n z' l
      split at hd
      · rename_i hc
        obtain ⟨rfl, hz, ho⟩ := hc
        cases hv with
        | cons _ c _ cs h1 h2 =>
          split at hd
          · rename_i hf
            cases hd
            refine Matched.new (b := (β r.g).map fun b : Base => b.shift (r.e * z')) hB hf (win_room h1 hz ho) h2 fun β1 n1 len _ hg hb hl => ?_
            have hl : len g = n := hl
            rw [hl]
            exact win_slice h1 hz ho hg hb
          · rename_i g' hf
            split at hd
            · rename_i hg'
              obtain ⟨rfl, he, hlen⟩ := hg'
              cases hd
              refine Matched.one hB h2 fun β1 n1 len hv => ?_
              obtain ⟨q1, q2, q3⟩ := hv.at_ g _ hf
              have hs : B g = β r.g := hB g _ hf
              rw [hs] at q2
              rw [q3 z' n hlen]
              have := whole_slice (t' := true) h1 q1 q2
              rw [he, hz, ho] at this
              exact this
            · cases hd
          · cases hd
      · cases hd
    · rename_i t y l
      split at hd
      · rename_i hz
        split at hd
        · rename_i hf
          cases hd
          cases hv with
          | cons _ c _ cs h1 h2 =>
            cases h1 with
            | vec _ _ cap a b o cs' hn ha i1 i2 =>
              by_cases hy : y = []
              · refine Matched.new (b := some (nilBase 1)) hB hf (show InlOk _ _ _ _ _ from .inl ⟨hy, rfl⟩) h2 fun β1 n1 len _ hg hb hl => ?_
                have hl : len g = y.length := hl
                have hy0 : y.length = 0 := by rw [hy]; rfl
                rw [hl]
                refine .slice _ _ _ _ _ _ hg hn (fun hna => ?_) fun b hb1 => ?_
                · exact ha.2 hna
                · rcases hb with e | e
                  · simp only at hb1; rw [e] at hb1; cases hb1; exact ⟨fun _ => ⟨hy0, fun h => by cases h⟩, fun h => by cases h⟩
                  · simp only at hb1; rw [e] at hb1; cases hb1
              · have hpos : 0 < y.length := List.length_pos_iff.2 hy
                refine Matched.new (b := some ⟨b, o, cap * t.z, false⟩) hB hf (show InlOk _ _ _ _ _ from .inr ⟨hy, b, o, cap * t.z, cs', rfl, Nat.mul_le_mul_right _ hn, fun k v hv => ⟨i1 k v hv, i2 k v hv⟩⟩) h2 fun β1 n1 len _ hg hb hl => ?_
                have hl : len g = y.length := hl
                rw [hl]
                refine .slice _ _ _ _ _ _ hg hn (fun hna => ?_) fun b' hb1 => ?_
                · exact ha.2 hna
                · rcases hb with e | e
                  · simp only at hb1
                    rw [e] at hb1
                    cases hb1
                    exact ⟨fun h => (by cases h), fun _ => ⟨fun hc => by simp only [Ref.i, Nat.zero_mul, Nat.add_zero]; exact ha.1 hpos, by simp only [Ref.i, Nat.zero_mul, Nat.zero_add, hz]; exact Nat.le_refl _⟩⟩
                  · simp only at hb1; rw [e] at hb1; cases hb1
        · cases hd
      · cases hd
    · cases hd
  | .part g z, vs, rest, ρ, ρ', x, B, cs, h, hv, hB => by
    simp only [matV] at h
    unfold matPart at h
    split at h
    · rename_i t r n z' l
      split at h
      · rename_i hc
        obtain ⟨rfl, hz, ho⟩ := hc
        cases hv with
        | cons _ c _ cs h1 h2 =>
          split at h
          · rename_i hf
            cases h
            refine Matched.new (b := β r.g) hB hf rfl h2 fun β1 n1 len _ hg hb _ => ?_
            have := whole_slice (t' := true) h1 hg hb
            rw [hz, ho] at this
            exact this
          · rename_i g' hf
            split at h
            · rename_i hg'
              subst hg'
              cases h
              refine Matched.one hB h2 fun β1 n1 len hv => ?_
              obtain ⟨q1, q2, _⟩ := hv.at_ g _ hf
              have hs : B g = β r.g := hB g _ hf
              rw [hs] at q2
              have := whole_slice (t' := true) h1 q1 q2
              rw [hz, ho] at this
              exact this
            · cases h
          · cases h
      · cases h
    · cases h
  | .nil, vs, rest, ρ, ρ', x, B, cs, h, hv, hB => by
    simp only [matV, Option.some.injEq, Prod.mk.injEq] at h
    obtain ⟨_, rfl, rfl⟩ := h
    exact ⟨Ext.refl _, B, hB, fun _ _ _ => rfl, [], cs, rfl, hv, fun _ _ _ _ => .nil⟩
  | .cat a b, vs, rest, ρ, ρ', x, B, cs, h, hv, hB => by
    simp only [matV] at h
    split at h
    · rename_i xa l1 ρ1 ha
      split at h
      · rename_i xb l2 ρ2 hb
        cases h
        obtain ⟨e1, B1, o1, k1, c1, c2, rfl, r1, f1⟩ := matV_sound hR a ha hv hB
        obtain ⟨e2, B2, o2, k2, c3, c4, rfl, r2, f2⟩ := matV_sound hR b hb r1 o1
        refine ⟨e1.trans e2, B2, o2, fun g s hs => by rw [k2 g s (e1 g s hs), k1 g s hs], c1 ++ c3, c4, by rw [List.append_assoc], r2, fun β1 n1 len hv => ?_⟩
        exact (f1 β1 n1 len (hv.less e2 k2)).append (f2 β1 n1 len hv)
      · cases h
    · cases h
  | .agg p, vs, rest, ρ, ρ', x, B, cs, h, hv, hB => by
    simp only [matV] at h
    split at h
    · rename_i xs l
      split at h
      · rename_i y ρ1 hp
        cases h
        cases hv with
        | cons _ c _ cs h1 h2 =>
          cases h1 with
          | agg _ ca h1 =>
            obtain ⟨e1, B1, o1, k1, c1, c2, hcc, r1, f1⟩ := matV_sound hR p hp h1 hB
            cases r1
            rw [List.append_nil] at hcc
            refine ⟨e1, B1, o1, k1, [.agg ca], cs, rfl, h2, fun β1 n1 len hv => .one (.agg _ _ ?_)⟩
            rw [hcc]
            exact f1 β1 n1 len hv
      · cases h
    · cases h
  | .tup p, vs, rest, ρ, ρ', x, B, cs, h, hv, hB => by
    simp only [matV] at h
    split at h
    · rename_i xs l
      split at h
      · rename_i y ρ1 hp
        cases h
        cases hv with
        | cons _ c _ cs h1 h2 =>
          cases h1 with
          | tup _ ca h1 =>
            obtain ⟨e1, B1, o1, k1, c1, c2, hcc, r1, f1⟩ := matV_sound hR p hp h1 hB
            cases r1
            rw [List.append_nil] at hcc
            refine ⟨e1, B1, o1, k1, [.tuple ca], cs, rfl, h2, fun β1 n1 len hv => .one (.tup _ _ ?_)⟩
            rw [hcc]
            exact f1 β1 n1 len hv
      · cases h
    · cases h
  | .func f p q, vs, rest, ρ, ρ', x, B, cs, h, hv, hB => by
    simp only [matV] at h
    split at h
    · rename_i f' xs ys l
      split at h
      · rename_i hf
        subst hf
        split at h
        · rename_i y ρ1 hp
          split at h
          · rename_i y2 ρ2 hq
            cases h
            cases hv with
            | cons _ c _ cs h1 h2 =>
              cases h1 with
              | func _ _ _ ca da h1 h3 =>
                obtain ⟨e1, B1, o1, k1, c1, c2, hcc, r1, f1⟩ := matV_sound hR p hp h1 hB
                cases r1
                rw [List.append_nil] at hcc
                obtain ⟨e2, B2, o2, k2, d1, d2, hdd, r2, f2⟩ := matV_sound hR q hq h3 o1
                cases r2
                rw [List.append_nil] at hdd
                refine ⟨e1.trans e2, B2, o2, fun g s hs => by rw [k2 g s (e1 g s hs), k1 g s hs], [.func f' ca da], cs, rfl, h2, fun β1 n1 len hv => .one (.func _ _ _ _ _ ?_ ?_)⟩
                · rw [hcc]
                  exact f1 β1 n1 len (hv.less e2 k2)
                · rw [hdd]
                  exact f2 β1 n1 len hv
          · cases h
        · cases h
      · cases h
    · cases h
end mat
end Go.Vx
