/- The evaluator's heap and the machine's memory: when the one tells the other. (A help: no statement of the seat is proved here.) -/
import Derived.Test.YtgmlklaehklmoaaVx1
import Derived.WalkKit
set_option linter.unusedVariables false
set_option linter.unusedSimpArgs false
namespace Go.Vx

/-- Where a row lies: its block, its first cell, how many cells are its own; or nowhere: nothing is in it, and no memory. -/
structure Base where
  blk : Nat
  off : Nat
  room : Nat
  nil : Bool := false

/-- Where the rows lie; the cells that stay as they are. -/
structure At where
  base : Nat → Option Base
  imm : Nat → Nat → Option Value
instance : CoeFun At (fun _ => Nat → Option Base) := ⟨At.base⟩

/-- A slice's address and its capacity, in a row. (Of a row that lies nowhere, with room: nothing is known of the capacity.) -/
def SlAt (b : Base) (i n cap z : Nat) (a : Option Addr) : Prop :=
  (b.nil = true → n = 0 ∧ (b.room = 0 → cap = 0)) ∧ (b.nil = false → (0 < cap → a = some ⟨b.blk, b.off + i, none⟩) ∧ i + cap * z ≤ b.room)

mutual
inductive VRel (N : Nat) (β : At) : AV → Value → Prop
  | bool (t b : Bool) : VRel N β (.bool t b) (.bool b)
  | int (t : Bool) (k : IntKind) (n : Int) : VRel N β (.int t k n) (.int k n)
  | str (t : Bool) (s : List UInt8) (b : ByteArray) (h : b.data.toList = s) : VRel N β (.str t s) (.string b)
  | pnil (t : Bool) : VRel N β (.ptr t none) (.pointer none)
  | ptr (t : Bool) (r : Ref) (a : Addr) (hg : r.g < N) (h : ∀ b, β r.g = some b → b.nil = false ∧ a = ⟨b.blk, b.off + r.i, none⟩) : VRel N β (.ptr t (some r)) (.pointer (some a))
  | snil (t : Bool) (z : Nat) (a : Option Addr) : VRel N β (.slice t none 0 z) (.slice a 0 0)
  | slice (t : Bool) (r : Ref) (n z cap : Nat) (a : Option Addr) (hg : r.g < N) (hn : n ≤ cap) (hs : a = none → cap = 0)
      (h : ∀ b, β r.g = some b → SlAt b r.i n cap z a) : VRel N β (.slice t (some r) n z) (.slice a n cap)
  | vec (t : Ty) (l : List t.den) (cap : Nat) (a : Option Addr) (b o : Nat) (cs : Nat → Value) (hn : l.length ≤ cap) (ha : (0 < l.length → a = some ⟨b, o, none⟩) ∧ (a = none → cap = 0))
      (h : ∀ k v, (encL t l)[k]? = some v → β.imm b (o + k) = some (cs k)) (h' : ∀ k v, (encL t l)[k]? = some v → VRel N β v (cs k)) : VRel N β (.vec t l) (.slice a l.length cap)
  | eptr (t : Ty) (l : List t.den) (e p : Nat) (b o : Nat) (cs : Nat → Value)
      (h : ∀ k v, (encL t l)[k]? = some v → β.imm b (o + k) = some (cs k)) (h' : ∀ k v, (encL t l)[k]? = some v → VRel N β v (cs k)) : VRel N β (.eptr t l e p) (.pointer (some ⟨b, o + (e * t.z + p), none⟩))
  | mnil : VRel N β (.map none) (.map none)
  | func (f : Fn) (xs ys : List AV) (cs ds : Array Value) (h : VsRel N β xs cs.toList) (h' : VsRel N β ys ds.toList) : VRel N β (.func f xs ys) (.func f cs ds)
  | nilFunc : VRel N β .nilFunc .nilFunc
  | nilIface : VRel N β .nilIface .nilIface
  | agg (xs : List AV) (cs : Array Value) (h : VsRel N β xs cs.toList) : VRel N β (.agg xs) (.agg cs)
  | tup (xs : List AV) (cs : Array Value) (h : VsRel N β xs cs.toList) : VRel N β (.tup xs) (.tuple cs)
inductive VsRel (N : Nat) (β : At) : List AV → List Value → Prop
  | nil : VsRel N β [] []
  | cons (x : AV) (c : Value) (xs : List AV) (cs : List Value) (h : VRel N β x c) (t : VsRel N β xs cs) : VsRel N β (x :: xs) (c :: cs)
end

/-- What was known of places is still known, or they are given up; what stays as it is stays so. -/
def Keeps (N : Nat) (β β' : At) : Prop := (∀ g, g < N → β' g = β g ∨ β' g = none) ∧ ∀ b o c, β.imm b o = some c → β'.imm b o = some c

theorem Keeps.refl (N : Nat) (β : At) : Keeps N β β := ⟨fun _ _ => .inl rfl, fun _ _ _ h => h⟩
theorem Keeps.at {N : Nat} {β β' : At} (h : Keeps N β β') {g : Nat} (hg : g < N) {b : Base} (hb : β' g = some b) : β g = some b := by
  rcases h.1 g hg with e | e
  · rw [← e]; exact hb
  · rw [e] at hb; cases hb

mutual
theorem VRel.mono {N N' : Nat} {β β' : At} (hN : N ≤ N') (hk : Keeps N β β') : ∀ {v : AV} {c : Value}, VRel N β v c → VRel N' β' v c
  | _, _, .bool t b => .bool t b
  | _, _, .int t k n => .int t k n
  | _, _, .str t s b h => .str t s b h
  | _, _, .pnil t => .pnil t
  | _, _, .ptr t r a hg h => .ptr t r a (by omega) fun b hb => h b (hk.at hg hb)
  | _, _, .snil t z a => .snil t z a
  | _, _, .slice t r n z cap a hg hn hs h => .slice t r n z cap a (by omega) hn hs fun b hb => h b (hk.at hg hb)
  | _, _, .vec t l cap a b o cs hn ha h h' => .vec t l cap a b o cs hn ha (fun k v hv => hk.2 _ _ _ (h k v hv)) (fun k v hv => VRel.mono hN hk (h' k v hv))
  | _, _, .eptr t l e p b o cs h h' => .eptr t l e p b o cs (fun k v hv => hk.2 _ _ _ (h k v hv)) (fun k v hv => VRel.mono hN hk (h' k v hv))
  | _, _, .mnil => .mnil
  | _, _, .func f xs ys cs ds h h' => .func f xs ys cs ds (VsRel.mono hN hk h) (VsRel.mono hN hk h')
  | _, _, .nilFunc => .nilFunc
  | _, _, .nilIface => .nilIface
  | _, _, .agg xs cs h => .agg xs cs (VsRel.mono hN hk h)
  | _, _, .tup xs cs h => .tup xs cs (VsRel.mono hN hk h)
theorem VsRel.mono {N N' : Nat} {β β' : At} (hN : N ≤ N') (hk : Keeps N β β') : ∀ {v : List AV} {c : List Value}, VsRel N β v c → VsRel N' β' v c
  | _, _, .nil => .nil
  | _, _, .cons x c xs cs h t => .cons x c xs cs (VRel.mono hN hk h) (VsRel.mono hN hk t)
end

section lists
variable {N : Nat} {β : At}
theorem VsRel.length {xs : List AV} {cs : List Value} (h : VsRel N β xs cs) : xs.length = cs.length := by
  induction xs generalizing cs with
  | nil => cases h; rfl
  | cons x xs ih => cases h with | cons _ c _ cs h t => simp [ih t]
theorem VsRel.at {xs : List AV} {cs : List Value} (h : VsRel N β xs cs) (j : Nat) (v : AV) (hv : xs[j]? = some v) : ∃ c, cs[j]? = some c ∧ VRel N β v c := by
  induction xs generalizing cs j with
  | nil => simp at hv
  | cons x xs ih =>
    cases h with
    | cons _ c _ cs h t =>
      cases j with
      | zero => simp at hv; subst hv; exact ⟨c, by simp, h⟩
      | succ j => simp at hv; obtain ⟨d, hd, hr⟩ := ih t j hv; exact ⟨d, by simpa using hd, hr⟩
theorem VsRel.of_at {xs : List AV} {cs : List Value} (hl : xs.length = cs.length) (h : ∀ (j : Nat) (v : AV) (c : Value), xs[j]? = some v → cs[j]? = some c → VRel N β v c) : VsRel N β xs cs := by
  induction xs generalizing cs with
  | nil => cases cs with
    | nil => exact .nil
    | cons c cs => simp at hl
  | cons x xs ih => cases cs with
    | nil => simp at hl
    | cons c cs => exact .cons _ _ _ _ (h 0 x c (by simp) (by simp)) (ih (by simpa using hl) fun j v c hv hc => h (j + 1) v c (by simpa using hv) (by simpa using hc))
theorem VsRel.append {xs ys : List AV} {cs ds : List Value} (h : VsRel N β xs cs) (k : VsRel N β ys ds) : VsRel N β (xs ++ ys) (cs ++ ds) := by
  induction xs generalizing cs with
  | nil => cases h; exact k
  | cons x xs ih => cases h with | cons _ c _ cs h t => exact .cons _ _ _ _ h (ih t)
theorem VsRel.take {xs : List AV} {cs : List Value} (h : VsRel N β xs cs) (n : Nat) : VsRel N β (xs.take n) (cs.take n) := by
  induction n generalizing xs cs with
  | zero => simpa using .nil
  | succ n ih => cases h with
    | nil => simpa using .nil
    | cons _ c _ cs h t => simpa using .cons _ _ _ _ h (ih t)
theorem VsRel.drop {xs : List AV} {cs : List Value} (h : VsRel N β xs cs) (n : Nat) : VsRel N β (xs.drop n) (cs.drop n) := by
  induction n generalizing xs cs with
  | zero => simpa using h
  | succ n ih => cases h with
    | nil => simpa using .nil
    | cons _ c _ cs h t => simpa using ih t
theorem VsRel.one {v : AV} {c : Value} (h : VRel N β v c) : VsRel N β [v] [c] := .cons _ _ _ _ h .nil
theorem VRel.cells {v : AV} {c : Value} (h : VRel N β v c) : VsRel N β v.cells c.cells.toList := by
  cases h with
  | agg xs cs h => exact h
  | bool t b => exact .one (.bool t b)
  | int t k n => exact .one (.int t k n)
  | str t s b h => exact .one (.str t s b h)
  | pnil t => exact .one (.pnil t)
  | ptr t r a hg h => exact .one (.ptr t r a hg h)
  | snil t z a => exact .one (.snil t z a)
  | slice t r n z cap a hg hn hs h => exact .one (.slice t r n z cap a hg hn hs h)
  | vec t l cap a b o cs hn ha h h' => exact .one (.vec t l cap a b o cs hn ha h h')
  | eptr t l e p b o cs h h' => exact .one (.eptr t l e p b o cs h h')
  | mnil => exact .one .mnil
  | func f xs ys cs ds h h' => exact .one (.func f xs ys cs ds h h')
  | nilFunc => exact .one .nilFunc
  | nilIface => exact .one .nilIface
  | tup xs cs h => exact .one (.tup xs cs h)
end lists

/-- A cell's value is none of several cells. -/
theorem VRel.one {N : Nat} {β : At} {v : AV} {c : Value} (h : VRel N β v c) (hv : v.cell = true) : (∀ xs, c ≠ .agg xs) ∧ ∀ xs, c ≠ .tuple xs := by
  cases h <;> simp [AV.cell] at hv ⊢

/-- A row that may be written: it has its block to itself, up to its room. -/
def Free (w : World) (b : Base) : Prop :=
  (∃ C e fr, w.heap[b.blk]? = some (.cells C e fr) ∧ b.off + b.room ≤ C.size) ∧ ∀ j, j < b.room → w.frozen? ⟨b.blk, b.off + j, none⟩ = false

/-- A row as it lies. -/
structure Lies (N : Nat) (β : At) (w : World) (cs : List AV) (ro : Bool) (b : Base) : Prop where
  cell : ∀ (j : Nat) (v : AV), cs[j]? = some v → ∃ c, w.cell? ⟨b.blk, b.off + j, none⟩ = some c ∧ VRel N β v c
  plain : ∀ (j : Nat) (v : AV), cs[j]? = some v → v.cell = true
  room : cs.length ≤ b.room
  nl : b.nil = true → cs = []
  nr : ro = false → b.nil = true → b.room = 0
  blk : b.nil = false → b.blk < w.heap.size
  free : ro = false → b.nil = false → Free w b

def Mut (β : At) (H : Heap) (k : Nat) : Prop := ∃ g b cs e, β g = some b ∧ H.row g = some (cs, e, false) ∧ b.nil = false ∧ b.blk = k

/-- The package-level variables that the proofs lean on. -/
def globInts : List Nat := []
def GlobOk (imm : Nat → Nat → Option Value) : Prop := ∀ g, g ∈ globInts → ∃ n, imm g 0 = some (.int .i64 n)
theorem GlobOk.mono {i j : Nat → Nat → Option Value} (h : GlobOk i) (hk : ∀ b o c, i b o = some c → j b o = some c) : GlobOk j := fun g hg => by
  obtain ⟨n, hn⟩ := h g hg
  exact ⟨n, hk _ _ _ hn⟩

structure Rel (β : At) (H : Heap) (w : World) : Prop where
  lies : ∀ g b, β g = some b → ∃ cs e ro, H.row g = some (cs, e, ro) ∧ Lies H.n β w cs ro b
  tot : ∀ g cs e ro, H.row g = some (cs, e, ro) → ∃ b, β g = some b
  fresh : ∀ g o, H.get g = some o → g < H.n
  apart : ∀ g g' b b' cs e, g ≠ g' → β g = some b → β g' = some b' → H.row g = some (cs, e, false) → b.nil = false → b'.nil = false → b.blk ≠ b'.blk
  immw : ∀ b o c, β.imm b o = some c → w.cell? ⟨b, o, none⟩ = some c
  immm : ∀ b o c, β.imm b o = some c → ¬ Mut β H b
  glob : GlobOk β.imm
  fro : ∀ g t l e b, H.get g = some (.fro t l e) → β g = some b → b.nil = false → ∀ k v, (encL t l)[k]? = some v → ∃ c, β.imm b.blk (b.off + k) = some c ∧ VRel H.n β v c

/-- From one state to a later one. -/
structure Le (β : At) (H : Heap) (w : World) (β' : At) (H' : Heap) (w' : World) : Prop where
  os : w'.os = w.os
  tape : w'.tape = w.tape
  output : w'.output = w.output
  size : w.heap.size ≤ w'.heap.size
  n : H.n ≤ H'.n
  keeps : Keeps H.n β β'
  ro : ∀ g cs e, H.row g = some (cs, e, true) → β' g = β g ∧ ∃ cs' e', H'.row g = some (cs', e', true)
  imm : ∀ b o c, β'.imm b o = some c → β.imm b o = some c ∨ Mut β H b ∨ w.heap.size ≤ b
  blocks : ∀ k, k < w.heap.size → ¬ Mut β H k → w'.heap[k]? = w.heap[k]?
  turn : ∀ k, Mut β' H' k → Mut β H k ∨ w.heap.size ≤ k

theorem Le.refl (β : At) (H : Heap) (w : World) : Le β H w β H w :=
  ⟨rfl, rfl, rfl, Nat.le_refl _, Nat.le_refl _, Keeps.refl _ _, fun _ _ _ h => ⟨rfl, _, _, h⟩, fun _ _ _ h => .inl h, fun _ _ _ => rfl, fun _ h => .inl h⟩
theorem Keeps.trans {N N' : Nat} {β β1 β2 : At} (h : Keeps N β β1) (k : Keeps N' β1 β2) (hN : N ≤ N') : Keeps N β β2 := by
  refine ⟨fun g hg => ?_, fun b o c hc => k.2 b o c (h.2 b o c hc)⟩
  rcases k.1 g (by omega) with e | e
  · rw [e]; exact h.1 g hg
  · exact .inr e
theorem Le.trans {β β1 β2 : At} {H H1 H2 : Heap} {w w1 w2 : World} (h : Le β H w β1 H1 w1) (k : Le β1 H1 w1 β2 H2 w2) : Le β H w β2 H2 w2 where
  os := k.os.trans h.os
  tape := k.tape.trans h.tape
  output := k.output.trans h.output
  size := Nat.le_trans h.size k.size
  n := Nat.le_trans h.n k.n
  keeps := h.keeps.trans k.keeps h.n
  ro := fun g cs e hg => by
    obtain ⟨e1, cs1, t1, h1⟩ := h.ro g cs e hg
    obtain ⟨e2, h2⟩ := k.ro g cs1 t1 h1
    exact ⟨e2.trans e1, h2⟩
  imm := fun b o c hc => by
    rcases k.imm b o c hc with e | e | e
    · exact h.imm b o c e
    · rcases h.turn b e with e | e
      · exact .inr (.inl e)
      · exact .inr (.inr e)
    · have := h.size; exact .inr (.inr (by omega))
  blocks := fun b hb hm => by
    rw [k.blocks b (by have := h.size; omega) (fun hm1 => ?_), h.blocks b hb hm]
    rcases h.turn b hm1 with e | e
    · exact hm e
    · omega
  turn := fun b hb => by
    rcases k.turn b hb with e | e
    · exact h.turn b e
    · have := h.size; exact .inr (by omega)

theorem Free.of_same {w w' : World} {b : Base} (h : Free w b) (he : w'.heap[b.blk]? = w.heap[b.blk]?) : Free w' b := by
  obtain ⟨⟨C, e, fr, hC, hs⟩, hf⟩ := h
  exact ⟨⟨C, e, fr, he.trans hC, hs⟩, fun j hj => (World.frozen?_of_block (w := w) (a := ⟨b.blk, b.off + j, none⟩) he).trans (hf j hj)⟩

/-- What stays as it is, later on. -/
theorem Rel.imm_later {β β' : At} {H H' : Heap} {w w' : World} (h : Rel β H w) (hk : ∀ k, k < w.heap.size → ¬ Mut β H k → w'.heap[k]? = w.heap[k]?) (ht : ∀ k, Mut β' H' k → Mut β H k ∨ w.heap.size ≤ k) :
    (∀ b o c, β.imm b o = some c → w'.cell? ⟨b, o, none⟩ = some c) ∧ ∀ b o c, β.imm b o = some c → ¬ Mut β' H' b := by
  have hlt : ∀ b o c, β.imm b o = some c → b < w.heap.size := fun b o c hc => by
    have := h.immw b o c hc
    unfold World.cell? at this
    cases hb : w.heap[b]? with
    | none => rw [hb] at this; cases this
    | some x => exact (Array.getElem?_eq_some_iff.1 hb).1
  refine ⟨fun b o c hc => ?_, fun b o c hc hm => ?_⟩
  · exact (World.cell?_of_block (w := w) (a := ⟨b, o, none⟩) (hk b (hlt b o c hc) (h.immm b o c hc))).trans (h.immw b o c hc)
  · rcases ht b hm with e | e
    · exact h.immm b o c hc e
    · have := hlt b o c hc; omega

/-- A row whose block is as it was, at a later place of the run. -/
theorem Lies.later {N N' : Nat} {β β' : At} {w w' : World} {cs : List AV} {ro : Bool} {b : Base} (h : Lies N β w cs ro b) (hN : N ≤ N') (hk : Keeps N β β')
    (he : b.nil = false → w'.heap[b.blk]? = w.heap[b.blk]?) : Lies N' β' w' cs ro b where
  cell := fun j v hv => by
    obtain ⟨c, hc, hr⟩ := h.cell j v hv
    have hn : b.nil = false := by
      cases hb : b.nil with
      | false => rfl
      | true => rw [h.nl hb] at hv; simp at hv
    exact ⟨c, (World.cell?_of_block (w := w) (a := ⟨b.blk, b.off + j, none⟩) (he hn)).trans hc, hr.mono hN hk⟩
  plain := h.plain
  room := h.room
  nl := h.nl
  nr := h.nr
  blk := fun hn => by
    have h1 := h.blk hn
    have h2 : w.heap[b.blk]? = some w.heap[b.blk] := Array.getElem?_eq_getElem h1
    have he := he hn
    rw [h2] at he
    exact (Array.getElem?_eq_some_iff.1 he).1
  free := fun hr hn => (h.free hr hn).of_same (he hn)

theorem Rel.row_lt {β : At} {H : Heap} {w : World} (h : Rel β H w) {g : Nat} {x : List AV × TypeId × Bool} (hg : H.row g = some x) : g < H.n := by
  unfold Heap.row at hg
  cases ho : H.get g with
  | none => rw [ho] at hg; cases hg
  | some o => exact h.fresh g o ho
/-- A draw turns nothing. -/
theorem Rel.drew {β : At} {H : Heap} {w : World} (h : Rel β H w) : Rel β H w.drew where
  lies := fun g b hb => by
    obtain ⟨cs, e, ro, h1, h2⟩ := h.lies g b hb
    exact ⟨cs, e, ro, h1, h2.later (Nat.le_refl _) (Keeps.refl _ _) fun _ => rfl⟩
  tot := h.tot
  fresh := h.fresh
  apart := h.apart
  immw := h.immw
  immm := h.immm
  glob := h.glob
  fro := h.fro
theorem Le.drew (β : At) (H : Heap) (w : World) : Le β H w β H w.drew :=
  ⟨rfl, rfl, rfl, Nat.le_refl _, Nat.le_refl _, Keeps.refl _ _, fun _ _ _ h => ⟨rfl, _, _, h⟩, fun _ _ _ h => .inl h, fun _ _ _ => rfl, fun _ h => .inl h⟩

def put (β : At) (g : Nat) (x : Option Base) : At := { base := fun h => if h = g then x else β h, imm := β.imm }
theorem put_same (β : At) (g : Nat) (x : Option Base) : (put β g x).base g = x := by simp [put]
theorem put_ne (β : At) (g h : Nat) (x : Option Base) (hne : h ≠ g) : (put β g x).base h = β h := by simp [put, hne]
@[simp] theorem put_imm (β : At) (g : Nat) (x : Option Base) : (put β g x).imm = β.imm := rfl
theorem Keeps.kill (N : Nat) (β : At) (g : Nat) : Keeps N β (put β g none) := ⟨fun h _ => by
  by_cases e : h = g
  · subst e; exact .inr (put_same ..)
  · exact .inl (put_ne _ _ _ _ e), fun _ _ _ h => h⟩
theorem Keeps.new (N : Nat) (β : At) (x : Option Base) : Keeps N β (put β N x) := ⟨fun h hh => .inl (put_ne _ _ _ _ (by omega)), fun _ _ _ h => h⟩

/-- A row that is given up. -/
theorem Rel.kill {β : At} {H : Heap} {w : World} (h : Rel β H w) {g : Nat} (hg : g < H.n) : Rel (put β g none) (H.set g .dead) w where
  lies := fun k b hb => by
    by_cases e : k = g
    · subst e; rw [put_same] at hb; cases hb
    · rw [put_ne _ _ _ _ e] at hb
      obtain ⟨cs, t, ro, h1, h2⟩ := h.lies k b hb
      exact ⟨cs, t, ro, by rw [Heap.row_set, if_neg e]; exact h1, h2.later (Nat.le_refl _) (Keeps.kill _ _ _) fun _ => rfl⟩
  tot := fun k cs t ro hk => by
    rw [Heap.row_set] at hk
    split at hk
    · cases hk
    · rename_i e
      obtain ⟨b, hb⟩ := h.tot k cs t ro hk
      exact ⟨b, by rw [put_ne _ _ _ _ e]; exact hb⟩
  fresh := fun k o hk => by
    rw [Heap.get_set] at hk
    split at hk
    · rename_i e; subst e; exact hg
    · exact h.fresh k o hk
  apart := fun k k' b b' cs t hne hb hb' hk => by
    rw [Heap.row_set] at hk
    split at hk
    · cases hk
    · rename_i e
      rw [put_ne _ _ _ _ e] at hb
      by_cases e' : k' = g
      · subst e'; rw [put_same] at hb'; cases hb'
      · rw [put_ne _ _ _ _ e'] at hb'
        exact h.apart k k' b b' cs t hne hb hb' hk
  glob := h.glob
  fro := fun k t l e b hk hb hn i v hv => by
    rw [Heap.get_set] at hk
    split at hk
    · cases hk
    · rename_i e'
      rw [put_ne _ _ _ _ e'] at hb
      obtain ⟨c, hc, hr⟩ := h.fro k t l e b hk hb hn i v hv
      exact ⟨c, hc, hr.mono (Nat.le_refl _) (Keeps.kill _ _ _)⟩
  immw := h.immw
  immm := fun b o c hc ⟨k, b1, cs, e, h1, h2, h3, h4⟩ => by
    rw [Heap.row_set] at h2
    split at h2
    · cases h2
    · rename_i e'
      rw [put_ne _ _ _ _ e'] at h1
      exact h.immm b o c hc ⟨k, b1, cs, e, h1, h2, h3, h4⟩

/-- A new row, in a block of its own. -/
theorem Rel.push {β : At} {H : Heap} {w w' : World} (h : Rel β H w) (b : Base) {cs : List AV} {e : TypeId} {o : AObj} (ho : o.row = some (cs, e, false))
    (hfree : ∀ g b', β g = some b' → b'.nil = false → b'.blk ≠ b.blk) (him : ∀ o c, β.imm b.blk o ≠ some c) (hsame : ∀ k, k < w.heap.size → k ≠ b.blk → w'.heap[k]? = w.heap[k]?)
    (hl : Lies (H.n + 1) (put β H.n (some b)) w' cs false b) : Rel (put β H.n (some b)) (H.push o) w' where
  lies := fun g b' hb => by
    by_cases e' : g = H.n
    · subst e'
      rw [put_same] at hb
      cases hb
      exact ⟨cs, e, false, by rw [Heap.row_push, if_pos rfl]; exact ho, hl⟩
    · rw [put_ne _ _ _ _ e'] at hb
      obtain ⟨cs', t, ro, h1, h2⟩ := h.lies g b' hb
      exact ⟨cs', t, ro, by rw [Heap.row_push, if_neg e']; exact h1, h2.later (by simp) (Keeps.new _ _ _) fun hn => hsame _ (h2.blk hn) (hfree g b' hb hn)⟩
  tot := fun k cs' t ro hk => by
    rw [Heap.row_push] at hk
    split at hk
    · rename_i e'; subst e'; exact ⟨b, put_same ..⟩
    · rename_i e'
      obtain ⟨b', hb'⟩ := h.tot k cs' t ro hk
      exact ⟨b', by rw [put_ne _ _ _ _ e']; exact hb'⟩
  fresh := fun k o hk => by
    rw [Heap.get_push] at hk
    split at hk
    · rename_i e'; subst e'; simp
    · have := h.fresh k o hk; simp; omega
  apart := fun k k' b1 b2 cs' t hne hb hb' hk hn hn' => by
    by_cases e1 : k = H.n
    · subst e1
      rw [put_same] at hb
      cases hb
      rw [put_ne _ _ _ _ (Ne.symm hne)] at hb'
      exact (hfree k' b2 hb' hn').symm
    · rw [put_ne _ _ _ _ e1] at hb
      by_cases e2 : k' = H.n
      · subst e2
        rw [put_same] at hb'
        cases hb'
        exact hfree k b1 hb hn
      · rw [put_ne _ _ _ _ e2] at hb'
        rw [Heap.row_push, if_neg e1] at hk
        exact h.apart k k' b1 b2 cs' t hne hb hb' hk hn hn'
  glob := h.glob
  fro := fun k t l e b1 hk hb hn i v hv => by
    rw [Heap.get_push] at hk
    split at hk
    · cases hk
      simp [AObj.row] at ho
    · rename_i e'
      rw [put_ne _ _ _ _ e'] at hb
      obtain ⟨c, hc, hr⟩ := h.fro k t l e b1 hk hb hn i v hv
      exact ⟨c, hc, hr.mono (by simp) (Keeps.new _ _ _)⟩
  immw := fun b1 o1 c1 hc => by
    have h1 := h.immw b1 o1 c1 hc
    have hlt : b1 < w.heap.size := by
      unfold World.cell? at h1
      cases hb : w.heap[b1]? with
      | none => rw [hb] at h1; cases h1
      | some x => exact (Array.getElem?_eq_some_iff.1 hb).1
    exact (World.cell?_of_block (w := w) (a := ⟨b1, o1, none⟩) (hsame b1 hlt (fun x => him o1 c1 (x ▸ hc)))).trans h1
  immm := fun b1 o1 c1 hc ⟨k, b2, cs2, e2, h1, h2, h3, h4⟩ => by
    by_cases e' : k = H.n
    · subst e'
      rw [put_same] at h1
      cases h1
      exact him o1 c1 (h4 ▸ hc)
    · rw [put_ne _ _ _ _ e'] at h1
      rw [Heap.row_push, if_neg e'] at h2
      exact h.immm b1 o1 c1 hc ⟨k, b2, cs2, e2, h1, h2, h3, h4⟩

/-- A new block. -/
theorem Rel.blk_lt {β : At} {H : Heap} {w : World} (h : Rel β H w) {g : Nat} {b : Base} (hb : β g = some b) (hn : b.nil = false) : b.blk < w.heap.size := by
  obtain ⟨_, _, _, _, hl⟩ := h.lies g b hb
  exact hl.blk hn
theorem Rel.imm_lt {β : At} {H : Heap} {w : World} (h : Rel β H w) {b o : Nat} {c : Value} (hc : β.imm b o = some c) : b < w.heap.size := by
  have h1 := h.immw b o c hc
  unfold World.cell? at h1
  cases hb : w.heap[b]? with
  | none => rw [hb] at h1; cases h1
  | some x => exact (Array.getElem?_eq_some_iff.1 hb).1
theorem Le.alloc {β : At} {H : Heap} {w w' : World} (h : Rel β H w) (hos : w'.os = w.os) (htape : w'.tape = w.tape) (hout : w'.output = w.output) (hsize : w.heap.size ≤ w'.heap.size)
    (hsame : ∀ k, k < w.heap.size → w'.heap[k]? = w.heap[k]?) (b : Base) (hb : w.heap.size ≤ b.blk) (o : AObj) :
    Le β H w (put β H.n (some b)) (H.push o) w' where
  os := hos
  tape := htape
  output := hout
  size := hsize
  n := by simp
  keeps := Keeps.new _ _ _
  ro := fun g cs' t hg => by
    have hlt := h.row_lt hg
    exact ⟨put_ne _ _ _ _ (by omega), cs', t, by rw [Heap.row_push, if_neg (by omega)]; exact hg⟩
  imm := fun _ _ _ h => .inl h
  blocks := fun k hk _ => hsame k hk
  turn := fun k hk => by
    obtain ⟨g, b', cs', t, hb', hg, hn, rfl⟩ := hk
    by_cases e' : g = H.n
    · subst e'
      rw [put_same] at hb'
      cases hb'
      exact .inr hb
    · rw [put_ne _ _ _ _ e'] at hb'
      rw [Heap.row_push, if_neg e'] at hg
      exact .inl ⟨g, b', cs', t, hb', hg, hn, rfl⟩

/-- A row of which cells are written: the same block, other cells. -/
theorem Rel.write {β : At} {H : Heap} {w w' : World} (h : Rel β H w) {g : Nat} {b : Base} {cs cs' : List AV} {e : TypeId} (hb : β g = some b) (hg : H.row g = some (cs, e, false)) (hbn : b.nil = false)
    (hsame : ∀ k, k ≠ b.blk → w'.heap[k]? = w.heap[k]?) {o : AObj} {e' : TypeId} (ho : o.row = some (cs', e', false)) (hl : Lies H.n β w' cs' false b) : Rel β (H.set g o) w' where
  lies := fun k b' hb' => by
    by_cases e' : k = g
    · subst e'
      rw [hb] at hb'
      cases hb'
      exact ⟨cs', e', false, by rw [Heap.row_set, if_pos rfl]; exact ho, hl⟩
    · obtain ⟨cs1, t, ro, h1, h2⟩ := h.lies k b' hb'
      exact ⟨cs1, t, ro, by rw [Heap.row_set, if_neg e']; exact h1, h2.later (Nat.le_refl _) (Keeps.refl _ _) fun hn => hsame _ (fun x => h.apart g k b b' cs e (Ne.symm e') hb hb' hg hbn hn x.symm)⟩
  tot := fun k cs1 t ro hk => by
    rw [Heap.row_set] at hk
    split at hk
    · rename_i e'; subst e'; exact ⟨b, hb⟩
    · exact h.tot k cs1 t ro hk
  fresh := fun k o hk => by
    rw [Heap.get_set] at hk
    split at hk
    · rename_i e'; subst e'; exact h.row_lt hg
    · exact h.fresh k o hk
  apart := fun k k' b1 b2 cs1 t hne hb1 hb2 hk => by
    rw [Heap.row_set] at hk
    split at hk
    · rename_i e'
      subst e'
      exact h.apart k k' b1 b2 cs e hne hb1 hb2 hg
    · exact h.apart k k' b1 b2 cs1 t hne hb1 hb2 hk
  glob := h.glob
  fro := fun k t l e1 b1 hk hb1 hn i v hv => by
    rw [Heap.get_set] at hk
    split at hk
    · cases hk
      simp [AObj.row] at ho
    · exact h.fro k t l e1 b1 hk hb1 hn i v hv
  immw := fun b1 o1 c1 hc => by
    have hm := h.immm b1 o1 c1 hc
    exact (World.cell?_of_block (w := w) (a := ⟨b1, o1, none⟩) (hsame b1 (fun x => hm ⟨g, b, cs, e, hb, hg, hbn, x.symm⟩))).trans (h.immw b1 o1 c1 hc)
  immm := fun b1 o1 c1 hc ⟨k, b2, cs2, e2, h1, h2, h3, h4⟩ => by
    rw [Heap.row_set] at h2
    split at h2
    · rename_i e'
      subst e'
      exact h.immm b1 o1 c1 hc ⟨k, b2, cs, e, h1, hg, h3, h4⟩
    · exact h.immm b1 o1 c1 hc ⟨k, b2, cs2, e2, h1, h2, h3, h4⟩
theorem Le.write {β : At} {H : Heap} {w w' : World} {g : Nat} {b : Base} {cs : List AV} {e : TypeId} (o : AObj) (hb : β g = some b) (hg : H.row g = some (cs, e, false)) (hbn : b.nil = false)
    (hos : w'.os = w.os) (htape : w'.tape = w.tape) (hout : w'.output = w.output) (hsize : w'.heap.size = w.heap.size) (hsame : ∀ k, k ≠ b.blk → w'.heap[k]? = w.heap[k]?) :
    Le β H w β (H.set g o) w' where
  os := hos
  tape := htape
  output := hout
  size := by omega
  n := by simp
  keeps := Keeps.refl _ _
  ro := fun k cs1 t hk => by
    refine ⟨rfl, cs1, t, ?_⟩
    rw [Heap.row_set]
    split
    · rename_i e'; subst e'; rw [hg] at hk; cases hk
    · exact hk
  imm := fun _ _ _ h => .inl h
  blocks := fun k hk hm => hsame k (fun x => hm ⟨g, b, cs, e, hb, hg, hbn, x.symm⟩)
  turn := fun k hk => by
    obtain ⟨g1, b1, cs1, t, h1, h2, h3, h4⟩ := hk
    rw [Heap.row_set] at h2
    split at h2
    · rename_i e'; subst e'; exact .inl ⟨g1, b1, cs, e, h1, hg, h3, h4⟩
    · exact .inl ⟨g1, b1, cs1, t, h1, h2, h3, h4⟩

/-- A row given up for a new one in the same block. -/
theorem Le.take {β : At} {H : Heap} {w w' : World} (h : Rel β H w) {g : Nat} {b b' : Base} {cs : List AV} {e : TypeId} (o : AObj) (hb : β g = some b) (hg : H.row g = some (cs, e, false)) (hbb : (b.nil = false ∧ b'.blk = b.blk) ∨ w.heap.size ≤ b'.blk)
    (hos : w'.os = w.os) (htape : w'.tape = w.tape) (hout : w'.output = w.output) (hsize : w.heap.size ≤ w'.heap.size) (hsame : ∀ k, k < w.heap.size → (b.nil = false → k ≠ b.blk) → w'.heap[k]? = w.heap[k]?) :
    Le β H w (put (put β g none) H.n (some b')) ((H.set g .dead).push o) w' where
  os := hos
  tape := htape
  output := hout
  size := hsize
  n := by simp
  keeps := (Keeps.kill _ _ _).trans (Keeps.new _ _ _) (Nat.le_refl _)
  ro := fun k cs1 t hk => by
    have hlt := h.row_lt hk
    have hne : k ≠ g := by rintro rfl; rw [hg] at hk; cases hk
    exact ⟨by rw [put_ne _ _ _ _ (by omega), put_ne _ _ _ _ hne], cs1, t, by rw [Heap.row_push, if_neg (by simp; omega), Heap.row_set, if_neg hne]; exact hk⟩
  imm := fun _ _ _ h => .inl h
  blocks := fun k hk hm => hsame k hk (fun hn x => hm ⟨g, b, cs, e, hb, hg, hn, x.symm⟩)
  turn := fun k hk => by
    obtain ⟨g1, b1, cs1, t, h1, h2, h3, h4⟩ := hk
    by_cases e1 : g1 = H.n
    · subst e1
      rw [put_same] at h1
      cases h1
      subst h4
      rcases hbb with ⟨hn, x⟩ | x
      · exact .inl ⟨g, b, cs, e, hb, hg, hn, x.symm⟩
      · exact .inr x
    · rw [put_ne _ _ _ _ e1] at h1
      rw [Heap.row_push, if_neg (by simpa using e1), Heap.row_set] at h2
      split at h2
      · cases h2
      · rename_i e2
        rw [put_ne _ _ _ _ e2] at h1
        exact .inl ⟨g1, b1, cs1, t, h1, h2, h3, h4⟩

/-- The variables. -/
def TRel (N : Nat) (β : At) (m : Tm) (tmps : Array Value) : Prop := tmps.size = m.n ∧ ∀ i v, m.get i = some v → ∃ c, tmps[i]? = some c ∧ VRel N β v c
theorem TRel.mono {N N' : Nat} {β β' : At} {m : Tm} {tmps : Array Value} (h : TRel N β m tmps) (hN : N ≤ N') (hk : Keeps N β β') : TRel N' β' m tmps :=
  ⟨h.1, fun i v hv => by
    obtain ⟨c, hc, hr⟩ := h.2 i v hv
    exact ⟨c, hc, hr.mono hN hk⟩⟩
theorem TRel.put {N : Nat} {β : At} {m m' : Tm} {tmps : Array Value} (h : TRel N β m tmps) {i : Nat} {v : AV} {c : Value} (hv : VRel N β v c) (hm : m.put i v = some m') : TRel N β m' (tmps.setIfInBounds i c) := by
  unfold Tm.put at hm
  cases hb : Nat.blt i m.n with
  | false => rw [hb] at hm; cases hm
  | true =>
    rw [hb] at hm
    simp only [cond_true, Option.some.injEq] at hm
    subst hm
    have hlt : i < m.n := by simpa [Nat.blt_eq] using hb
    refine ⟨by simpa using h.1, fun j u hu => ?_⟩
    simp only [Tm.get, Trie.get_set] at hu
    by_cases e : j = i
    · subst e
      rw [if_pos rfl] at hu
      cases hu
      exact ⟨c, by rw [Array.getElem?_setIfInBounds, if_pos rfl, if_pos (by rw [h.1]; exact hlt)], hv⟩
    · rw [if_neg e] at hu
      obtain ⟨d, hd, hr⟩ := h.2 j u hu
      exact ⟨d, by rw [Array.getElem?_setIfInBounds, if_neg (fun x => e x.symm)]; exact hd, hr⟩
theorem TRel.dst {N : Nat} {β : At} {m m' : Tm} {a : Act} (h : TRel N β m a.tmps) {d : Option Nat} {v : AV} {c : Value} (hv : VRel N β v c) (hm : m.dst d v = some m') : TRel N β m' (a.put d c).tmps := by
  cases d with
  | none => simp only [Tm.dst, Option.some.injEq] at hm; subst hm; exact h
  | some i => exact TRel.put h hv hm

end Go.Vx
