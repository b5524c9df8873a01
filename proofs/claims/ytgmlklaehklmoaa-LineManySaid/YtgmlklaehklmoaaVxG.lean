/- The evaluator on values that hang on the input: steps, regions, code, calls. (A help: no statement of the seat is proved here.) -/
import Derived.Test.YtgmlklaehklmoaaVxF
set_option linter.unusedVariables false
set_option linter.unusedSimpArgs false
namespace Go.Vx

/-- How a call goes. -/
abbrev Handler := FuncId → List AV → Heap → (AV → Heap → Prop) → Prop
/-- How a loop goes, if it is known. -/
abbrev LoopH := Code → Tm → Heap → (Out → Tm → Heap → Prop) → Option Prop

/-! What is computed is computed once: before it is handed on, it is brought to its shape. -/
def forceB (b : Bool) (k : Bool → Prop) : Prop := match b with
  | true => k true
  | false => k false
theorem forceB_elim {b : Bool} {k : Bool → Prop} (h : forceB b k) : k b := by cases b <;> exact h
def forceN (n : Nat) (k : Nat → Prop) : Prop := match n with
  | 0 => k 0
  | n + 1 => k (Nat.succ n)
theorem forceN_elim {n : Nat} {k : Nat → Prop} (h : forceN n k) : k n := by cases n <;> exact h
def forceI (n : Int) (k : Int → Prop) : Prop := match n with
  | .ofNat m => forceN m fun m => k (.ofNat m)
  | .negSucc m => forceN m fun m => k (.negSucc m)
theorem forceI_elim {n : Int} {k : Int → Prop} (h : forceI n k) : k n := by cases n <;> exact forceN_elim (k := fun m => k _) h
def forceEO (t : Bool) (g e z o : Nat) (k : Option Ref → Prop) : Prop := match t with
  | true => k (some ⟨g, e, z, o⟩)
  | false => forceN e fun e => forceN o fun o => k (some ⟨g, e, z, o⟩)
theorem forceEO_elim {t : Bool} {g e z o : Nat} {k : Option Ref → Prop} (h : forceEO t g e z o k) : k (some ⟨g, e, z, o⟩) := by
  cases t with
  | true => exact h
  | false => exact forceN_elim (k := fun o => k (some ⟨g, e, z, o⟩)) (forceN_elim (k := fun e => forceN o fun o => k (some ⟨g, e, z, o⟩)) h)
def forceR (t : Bool) (r : Option Ref) (k : Option Ref → Prop) : Prop := match r with
  | none => k none
  | some ⟨g, e, z, o⟩ => forceN g fun g => forceN z fun z => forceEO t g e z o k
theorem forceR_elim {t : Bool} {r : Option Ref} {k : Option Ref → Prop} (h : forceR t r k) : k r := by
  cases r with
  | none => exact h
  | some r =>
    obtain ⟨g, e, z, o⟩ := r
    exact forceEO_elim (forceN_elim (k := fun z => forceEO t g e z o k) (forceN_elim (k := fun g => forceN z fun z => forceEO t g e z o k) h))
mutual
def forceV : AV → (AV → Prop) → Prop
  | .bool t b, k => match t with
    | true => k (.bool true b)
    | false => forceB b fun b => k (.bool false b)
  | .int t kd n, k => match t with
    | true => k (.int true kd n)
    | false => forceI n fun n => k (.int false kd n)
  | .str t s, k => forceB t fun t => k (.str t s)
  | .ptr t r, k => forceB t fun t => forceR t r fun r => k (.ptr t r)
  | .slice t r n z, k => forceB t fun t => forceR t r fun r => forceN z fun z => match t with
    | true => k (.slice true r n z)
    | false => forceN n fun n => k (.slice false r n z)
  | .eptr t l e o, k => forceN o fun o => k (.eptr t l e o)
  | .agg l, k => forceL l fun l => k (.agg l)
  | .tup l, k => forceL l fun l => k (.tup l)
  | v, k => k v
def forceL : List AV → (List AV → Prop) → Prop
  | [], k => k []
  | v :: l, k => forceV v fun v => forceL l fun l => k (v :: l)
end
mutual
theorem forceV_elim : ∀ {v : AV} {k : AV → Prop}, forceV v k → k v
  | .bool t b, k, h => by
    cases t with
    | true => simpa only [forceV] using h
    | false => simp only [forceV] at h; exact forceB_elim (k := fun b => k (.bool false b)) h
  | .int t kd n, k, h => by
    cases t with
    | true => simpa only [forceV] using h
    | false => simp only [forceV] at h; exact forceI_elim (k := fun n => k (.int false kd n)) h
  | .str t s, k, h => by simp only [forceV] at h; exact forceB_elim (k := fun t => k (.str t s)) h
  | .ptr t r, k, h => by
    simp only [forceV] at h
    exact forceR_elim (forceB_elim (k := fun t => forceR t r fun r => k (.ptr t r)) h)
  | .slice t r n z, k, h => by
    simp only [forceV] at h
    have h1 := forceN_elim (forceR_elim (forceB_elim h))
    cases t with
    | true => exact h1
    | false => exact forceN_elim (k := fun n => k (.slice false r n z)) h1
  | .vec t l, k, h => by simpa only [forceV] using h
  | .eptr t l e o, k, h => by simp only [forceV] at h; exact forceN_elim (k := fun o => k (.eptr t l e o)) h
  | .map r, k, h => by simpa only [forceV] using h
  | .func f a b, k, h => by simpa only [forceV] using h
  | .nilFunc, k, h => by simpa only [forceV] using h
  | .nilIface, k, h => by simpa only [forceV] using h
  | .agg l, k, h => by simp only [forceV] at h; exact forceL_elim (k := fun l => k (.agg l)) h
  | .tup l, k, h => by simp only [forceV] at h; exact forceL_elim (k := fun l => k (.tup l)) h
theorem forceL_elim : ∀ {l : List AV} {k : List AV → Prop}, forceL l k → k l
  | [], k, h => by simpa only [forceL] using h
  | v :: l, k, h => by
    simp only [forceL] at h
    exact forceL_elim (k := fun l => k (v :: l)) (forceV_elim (k := fun v => forceL l fun l => k (v :: l)) h)
end
def forceO (o : Option AObj) (k : Option AObj → Prop) : Prop := match o with
  | some (.cells cs e ro) => forceL cs fun cs => forceB ro fun ro => k (some (.cells cs e ro))
  | some (.vec t l e ro) => forceB ro fun ro => k (some (.vec t l e ro))
  | o => k o
theorem forceO_elim {o : Option AObj} {k : Option AObj → Prop} (h : forceO o k) : k o := by
  unfold forceO at h
  split at h
  · rename_i cs e ro; exact forceB_elim (k := fun ro => k (some (.cells cs e ro))) (forceL_elim (k := fun cs => forceB ro fun ro => k (some (.cells cs e ro))) h)
  · rename_i t l e ro; exact forceB_elim (k := fun ro => k (some (.vec t l e ro))) h
  · exact h
def forceT : Trie AObj → (Trie AObj → Prop) → Prop
  | .leaf, k => k .leaf
  | .node v l r, k => forceO v fun v => forceT l fun l => forceT r fun r => k (.node v l r)
theorem forceT_elim : ∀ {t : Trie AObj} {k : Trie AObj → Prop}, forceT t k → k t
  | .leaf, k, h => h
  | .node v l r, k, h => forceT_elim (k := fun r => k (.node v l r)) (forceT_elim (k := fun l => forceT r fun r => k (.node v l r)) (forceO_elim (k := fun v => forceT l fun l => forceT r fun r => k (.node v l r)) h))
def forceW : Trie Nat → (Trie Nat → Prop) → Prop
  | .leaf, k => k .leaf
  | .node none l r, k => forceW l fun l => forceW r fun r => k (.node none l r)
  | .node (some n) l r, k => forceN n fun n => forceW l fun l => forceW r fun r => k (.node (some n) l r)
theorem forceW_elim : ∀ {t : Trie Nat} {k : Trie Nat → Prop}, forceW t k → k t
  | .leaf, k, h => h
  | .node none l r, k, h => forceW_elim (k := fun r => k (.node none l r)) (forceW_elim (k := fun l => forceW r fun r => k (.node none l r)) h)
  | .node (some n) l r, k, h => forceW_elim (k := fun r => k (.node (some n) l r)) (forceW_elim (k := fun l => forceW r fun r => k (.node (some n) l r)) (forceN_elim (k := fun n => forceW l fun l => forceW r fun r => k (.node (some n) l r)) h))
def forceH (H : Heap) (k : Heap → Prop) : Prop := match H with
  | ⟨n, t, w⟩ => forceN n fun n => forceT t fun t => forceW w fun w => k ⟨n, t, w⟩
theorem forceH_elim {H : Heap} {k : Heap → Prop} (h : forceH H k) : k H := by
  obtain ⟨n, t, w⟩ := H
  exact forceW_elim (k := fun w => k ⟨n, t, w⟩) (forceT_elim (k := fun t => forceW w fun w => k ⟨n, t, w⟩) (forceN_elim (k := fun n => forceT t fun t => forceW w fun w => k ⟨n, t, w⟩) h))
def setK : Nat → Trie AV → Nat → AV → (Trie AV → Prop) → Prop
  | 0, t, _, _, k => k t
  | f + 1, .leaf, n, a, k => match Nat.beq n 0 with
    | true => k (.node (some a) .leaf .leaf)
    | false => match Nat.beq (n % 2) 1 with
      | true => setK f .leaf (n / 2) a fun l => k (.node none l .leaf)
      | false => setK f .leaf (n / 2 - 1) a fun r => k (.node none .leaf r)
  | f + 1, .node v l r, n, a, k => match Nat.beq n 0 with
    | true => k (.node (some a) l r)
    | false => match Nat.beq (n % 2) 1 with
      | true => setK f l (n / 2) a fun l => k (.node v l r)
      | false => setK f r (n / 2 - 1) a fun r => k (.node v l r)
theorem setK_elim : ∀ {f : Nat} {t : Trie AV} {n : Nat} {a : AV} {k : Trie AV → Prop}, setK f t n a k → k (t.setF f n a)
  | 0, t, n, a, k, h => by simp only [setK] at h; simpa only [Trie.setF] using h
  | f + 1, t, n, a, k, h => by
    rw [Trie.setF]
    cases t with
    | leaf =>
      simp only [setK] at h
      split at h
      · rename_i e; rw [e]; exact h
      · rename_i e
        rw [e]
        split at h
        · rename_i e'; rw [e']; exact setK_elim h
        · rename_i e'; rw [e']; exact setK_elim h
    | node v l r =>
      simp only [setK] at h
      split at h
      · rename_i e; rw [e]; exact h
      · rename_i e
        rw [e]
        split at h
        · rename_i e'; rw [e']; exact setK_elim h
        · rename_i e'; rw [e']; exact setK_elim h
def dstK (m : Tm) (d : Option Nat) (v : AV) (k : Tm → Prop) : Prop := match d, m with
  | none, m => k m
  | some i, ⟨n, t⟩ => match Nat.blt i n with
    | true => forceV v fun v => setK (i + 1) t i v fun t => k ⟨n, t⟩
    | false => False
theorem dstK_elim {m : Tm} {d : Option Nat} {v : AV} {k : Tm → Prop} (h : dstK m d v k) : ∃ m', m.dst d v = some m' ∧ k m' := by
  cases d with
  | none => exact ⟨m, rfl, h⟩
  | some i =>
    obtain ⟨n, t⟩ := m
    simp only [dstK] at h
    split at h
    · rename_i hb
      refine ⟨_, ?_, setK_elim (forceV_elim h)⟩
      simp only [Tm.dst, Tm.put, hb, cond_true]
      rfl
    · exact h.elim
def coolK (dst : Option Nat) (d : Nat) (b : Bool) (m : Tm) (k : Tm → Prop) : Prop := match dst, m with
  | none, ⟨n, t⟩ => setK (d + 1) t d (.bool false b) fun t => k ⟨n, t⟩
  | some e, ⟨n, t⟩ => match Nat.beq e d with
    | true => k ⟨n, t⟩
    | false => setK (d + 1) t d (.bool false b) fun t => k ⟨n, t⟩
theorem coolK_elim {dst : Option Nat} {d : Nat} {b : Bool} {m : Tm} {k : Tm → Prop} (h : coolK dst d b m k) : k (coolD dst d b m) := by
  obtain ⟨n, t⟩ := m
  cases dst with
  | none => exact setK_elim h
  | some e =>
    simp only [coolK] at h
    unfold coolD
    split at h
    · rename_i e'; simp only [e', cond_true]; exact h
    · rename_i e'; simp only [e', cond_false]; exact setK_elim h
def coolXK (x : Operand) (b : Bool) (m : Tm) (k : Tm → Prop) : Prop := match x with
  | .tmp d => coolK none d b m k
  | _ => k m
theorem coolXK_elim {x : Operand} {b : Bool} {m : Tm} {k : Tm → Prop} (h : coolXK x b m k) : k (coolX x b m) := by
  cases x with
  | tmp d => exact coolK_elim (show coolK none d b m k from h)
  | _ => exact h
/-- The heap behind an operation. -/
def heapK (P : Program) (o : Op) (H : Heap) (k : Heap → Prop) : Prop := match isEff P o with
  | true => forceH H k
  | false => k H
theorem heapK_elim {P : Program} {o : Op} {H : Heap} {k : Heap → Prop} (h : heapK P o H k) : k H := by
  unfold heapK at h
  split at h
  · exact forceH_elim h
  · exact h

section defs
variable (P : Program)
/-- Variables that are known to be so. -/
abbrev Kn := List (Nat × Bool)
def knows? : Kn → Nat → Option Bool
  | [], _ => none
  | (e, b) :: l, d => match Nat.beq e d with
    | true => some b
    | false => knows? l d
def strike : Kn → Option Nat → Kn
  | kn, none => kn
  | [], some _ => []
  | (e, b) :: l, some d => match Nat.beq e d with
    | true => strike l (some d)
    | false => (e, b) :: strike l (some d)
def guardN (ops : Array Oper) (o : Oper) (m : Tm) (kn : Kn) (x y : Kn → Prop) : Prop :=
  match o.guard with
  | none => x kn
  | some (j, want) => match ops[j]? with
    | some oj => match oj.dst with
      | some d => match knows? kn d with
        | some b => match b == want with
          | true => x kn
          | false => y kn
        | none => match m.get d with
          | some (.bool t b) => match want with
            | true => fork t b (x ((d, true) :: kn)) (y ((d, false) :: kn))
            | false => fork t b (y ((d, true) :: kn)) (x ((d, false) :: kn))
          | some (.tup []) => y kn
          | _ => False
      | none => False
    | none => False
def stepS (S : Handler) (ops : Array Oper) (o : Oper) (m : Tm) (H : Heap) (kn : Kn) (k : Tm → Heap → Kn → Prop) : Prop :=
  guardN ops o m kn
    (fun kn => match o.op with
      | .pick (.tmp c) a b => match knows? kn c with
        | some true => must (opnd m a) fun v => dstK m o.dst v fun m' => k m' H (strike kn o.dst)
        | some false => must (opnd m b) fun v => dstK m o.dst v fun m' => k m' H (strike kn o.dst)
        | none => match m.get c with
          | some (.bool t x) => fork t x (must (opnd m a) fun v => dstK m o.dst v fun m' => k m' H (strike ((c, true) :: kn) o.dst)) (must (opnd m b) fun v => dstK m o.dst v fun m' => k m' H (strike ((c, false) :: kn) o.dst))
          | _ => False
      | op => opS P op m H fun g => match g with
        | .val v H' => heapK P op H' fun H' => dstK m o.dst v fun m' => k m' H' (strike kn o.dst)
        | .enter f args => forceL args fun args => S f args H fun v H' => forceH H' fun H' => dstK m o.dst v fun m' => k m' H' (strike kn o.dst))
    (fun kn => dstK m o.dst (.tup []) fun m' => k m' H (strike kn o.dst))
/-- The same; what has been tried is known from then on. -/
def guardCS (ops : Array Oper) (o : Oper) (m : Tm) (x y : (Tm → (Tm → Prop) → Prop) → Prop) : Prop :=
  match o.guard with
  | none => x fun m k => k m
  | some (j, want) => match ops[j]? with
    | some oj => match oj.dst with
      | some d => match m.get d with
        | some (.bool t b) => match want with
          | true => fork t b (x (coolK o.dst d true)) (y (coolK o.dst d false))
          | false => fork t b (y (coolK o.dst d true)) (x (coolK o.dst d false))
        | some (.tup []) => y fun m k => k m
        | _ => False
      | none => False
    | none => False
def stepCS (S : Handler) (ops : Array Oper) (o : Oper) (m : Tm) (H : Heap) (k : Tm → Heap → Prop) : Prop :=
  guardCS ops o m
    (fun cool => match o.op with
      | .pick (.tmp c) a b => match m.get c with
        | some (.bool t x) => fork t x (must (opnd m a) fun v => dstK m o.dst v fun m' => cool m' fun m' => coolK o.dst c true m' fun m' => k m' H) (must (opnd m b) fun v => dstK m o.dst v fun m' => cool m' fun m' => coolK o.dst c false m' fun m' => k m' H)
        | _ => False
      | .pick _ _ _ => False
      | op => opS P op m H fun g => match g with
        | .val v H' => heapK P op H' fun H' => dstK m o.dst v fun m' => cool m' fun m' => k m' H'
        | .enter f args => forceL args fun args => S f args H fun v H' => forceH H' fun H' => dstK m o.dst v fun m' => cool m' fun m' => k m' H')
    (fun cool => match o.op with
      | .pick (.tmp c) _ _ => match m.get c with
        | some (.tup []) => dstK m o.dst (.tup []) fun m' => cool m' fun m' => k m' H
        | _ => False
      | .pick _ _ _ => False
      | _ => dstK m o.dst (.tup []) fun m' => cool m' fun m' => k m' H)
def opsS (S : Handler) (ops : Array Oper) : List Oper → Tm → Heap → (Tm → Heap → Prop) → Prop
  | [], m, H, k => k m H
  | o :: l, m, H, k => stepCS P S ops o m H fun m' H' => opsS S ops l m' H' k

abbrev Entry := Heap × Option Nat
def traceS (S : Handler) (ops : Array Oper) : List Oper → Tm → Heap → Kn → (Tm → Heap → List Entry → Prop) → Prop
  | [], m, H, _, k => k m H []
  | o :: l, m, H, kn, k => stepS P S ops o m H kn fun m' H' kn' => traceS S ops l m' H' kn' fun m2 H2 tr => k m2 H2 ((H, readOf o.op m) :: tr)
def nextH (tr : List Entry) (Hl : Heap) (j : Nat) : Heap :=
  match tr[j + 1]? with
  | some (Hk, _) => Hk
  | none => Hl
/-- Does it read a row? -/
def reads (ops : Array Oper) (i : Nat) : Bool := match ops[i]? with
  | some o => match o.op with
    | .load _ _ => true
    | .convert _ _ _ => true
    | _ => false
  | none => false
def pairS (ops : Array Oper) (b : Array Nat) (tr : List Entry) (Hl : Heap) (j i : Nat) (p : Prop) : Prop :=
  match (b.getD j 0).testBit i || (b.getD i 0).testBit j with
  | true => p
  | false => match tr[i]?, tr[j]? with
    | some (_, some g), some (Hj, _) => match Nat.beq (Hj.gen g) ((nextH tr Hl j).gen g) && Nat.blt g Hj.n with
      | true => p
      | false => Hj.get g = (nextH tr Hl j).get g ∧ p
    | _, _ => p
def pairsS (ops : Array Oper) (b : Array Nat) (tr : List Entry) (Hl : Heap) (j : Nat) : List Nat → Prop → Prop
  | [], p => p
  | i :: l, p => match reads ops i with
    | true => pairS ops b tr Hl j i (pairsS ops b tr Hl j l p)
    | false => pairsS ops b tr Hl j l p
def readsS (ops : Array Oper) (b : Array Nat) (tr : List Entry) (Hl : Heap) : List Nat → Prop → Prop
  | [], p => p
  | j :: l, p => match ops[j]? with
    | some y => match isEff P y.op with
      | true => pairsS ops b tr Hl j (List.range ops.size) (readsS ops b tr Hl l p)
      | false => readsS ops b tr Hl l p
    | none => readsS ops b tr Hl l p
def drawS (D : Handler) (ops : Array Oper) (m : Tm) (H : Heap) (k : Tm → Heap → Prop) : Prop :=
  traceS P D ops ops.toList m H [] fun m' H' tr => readsS P ops (Region.before ops) tr H' (List.range ops.size) (k m' H')
/-- The same twice: for two orders. -/
structure Twice (a b : Prop) : Prop where
  fst : a
  snd : b
def allS (p : Array Oper → Prop) : List (Array Oper) → Prop
  | [] => False
  | v :: l => match l with
    | [] => p v
    | w :: l' => Twice (p v) (allS p (w :: l'))
theorem allS_elim {p : Array Oper → Prop} : ∀ {l : List (Array Oper)}, allS p l → ∀ v ∈ l, p v
  | [], h, v, hv => by cases hv
  | [u], h, v, hv => by
    simp only [List.mem_singleton] at hv
    subst hv
    exact h
  | u :: x :: l, h, v, hv => by
    have h : Twice (p u) (allS p (x :: l)) := h
    rcases List.mem_cons.1 hv with e | hv
    · subst e; exact h.fst
    · exact allS_elim h.snd v hv
/-- The regions of open order in a code: which of their operations are loose. -/
def codePl : Code → Bool
  | .region _ ops true => drawOk P ops (Region.before ops)
  | .seq a b => codePl a && codePl b
  | .cond _ a b => codePl a && codePl b
  | .block _ b => codePl b
  | .loop b => codePl b
  | _ => true
/-- The same, in each order that is tried. -/
def codeOk : Code → Bool
  | .region _ ops true => (turnsOf P 4 ops).all fun v => drawOk P v (Region.before v)
  | .seq a b => codeOk a && codeOk b
  | .cond _ a b => codeOk a && codeOk b
  | .block _ b => codeOk b
  | .loop b => codeOk b
  | _ => true
def fnOk (fn : Func) : Bool := match fn.body with
  | some c => codeOk P c
  | none => true
def progOk : Bool := P.funcs.all (fnOk P)

def execS (S D : Handler) (L : LoopH) : Nat → Code → Tm → Heap → (Out → Tm → Heap → Prop) → Prop
  | 0, _, _, _, _ => False
  | n + 1, c, m, H, k => match c with
    | .skip => k .norm m H
    | .label _ => k .norm m H
    | .region _ ops true => allS (fun v => drawS P D v m H fun m' H' => k .norm m' H') (turnsOf P 4 ops)
    | .region _ ops false => opsS P S ops ops.toList m H fun m' H' => k .norm m' H'
    | .seq a b => execS S D L n a m H fun o m' H' => match o with
      | .norm => execS S D L n b m' H' k
      | o => k o m' H'
    | .cond x a b => match opnd m x with
      | some (.bool t y) => fork t y (coolXK x true m fun m => execS S D L n a m H k) (coolXK x false m fun m => execS S D L n b m H k)
      | _ => False
    | .block id b => execS S D L n b m H fun o m' H' => match o with
      | .exit id' => match Nat.beq id' id with
        | true => k .norm m' H'
        | false => k (.exit id') m' H'
      | o => k o m' H'
    | .loop b => match L b m H k with
      | some p => p
      | none => execS S D L n b m H fun o m' H' => match o with
        | .norm => execS S D L n (.loop b) m' H' k
        | o => k o m' H'
    | .exit id => k (.exit id) m H
    | .ret => k .ret m H
    | _ => False

def bodyS (S D : Handler) (L : LoopH) (n : Nat) (fn : Func) (c : Code) (args : List AV) (H : Heap) (k : AV → Heap → Prop) : Prop :=
  match Nat.ble args.length fn.ntmps with
  | false => False
  | true => execS P S D L n c (startM fn.ntmps args) H fun o m H' => match o with
    | .norm => must (resA P m H' fn.results.toList) fun l => k (pack l) H'
    | .ret => must (resA P m H' fn.results.toList) fun l => k (pack l) H'
    | .exit _ => False

end defs

section sound
variable {P : Program}

def ClS (S : Handler) (cl : Caller) : Prop := ∀ f args H k, S f args H k → ∃ v H', cl f args H = some (v, H') ∧ k v H'

def KnOk (kn : Kn) (m : Tm) : Prop := ∀ d b, knows? kn d = some b → ∃ t, m.get d = some (.bool t b)
theorem KnOk.cons {kn : Kn} {m : Tm} (h : KnOk kn m) {d : Nat} {t b : Bool} (hd : m.get d = some (.bool t b)) : KnOk ((d, b) :: kn) m := fun e c hc => by
  simp only [knows?] at hc
  split at hc
  · rename_i he
    cases hc
    rw [← Nat.eq_of_beq_eq_true he]
    exact ⟨t, hd⟩
  · exact h e c hc
theorem knows_strike : ∀ (kn : Kn) (dst : Option Nat) (d : Nat) (b : Bool), knows? (strike kn dst) d = some b → knows? kn d = some b ∧ dst ≠ some d
  | kn, none, d, b, h => ⟨by simpa only [strike] using h, by simp⟩
  | [], some e, d, b, h => by simp only [strike, knows?] at h; cases h
  | (e, c) :: l, some x, d, b, h => by
    simp only [strike] at h
    split at h
    · rename_i he
      obtain ⟨h1, h2⟩ := knows_strike l (some x) d b h
      refine ⟨?_, h2⟩
      simp only [knows?]
      have : ¬ e = d := fun e' => h2 (by rw [← e', Nat.eq_of_beq_eq_true he])
      rw [nbeq_no this]
      exact h1
    · rename_i he
      simp only [knows?] at h ⊢
      split at h
      · rename_i hd
        cases h
        refine ⟨rfl, fun e' => ?_⟩
        cases e'
        rw [he] at hd
        cases hd
      · rename_i hd
        obtain ⟨h1, h2⟩ := knows_strike l (some x) d b h
        exact ⟨h1, h2⟩
theorem KnOk.dst {kn : Kn} {m m' : Tm} (h : KnOk kn m) {dst : Option Nat} {v : AV} (hm : m.dst dst v = some m') : KnOk (strike kn dst) m' := fun d b hd => by
  obtain ⟨h1, h2⟩ := knows_strike kn dst d b hd
  obtain ⟨t, ht⟩ := h d b h1
  exact ⟨t, by rw [dst_keeps hm h2]; exact ht⟩
theorem guardN_sound {ops : Array Oper} {o : Oper} {m : Tm} {kn : Kn} {x y : Kn → Prop} (hk : KnOk kn m) (h : guardN ops o m kn x y) : ∃ kn', KnOk kn' m ∧ ((guardA ops o m = some true ∧ x kn') ∨ (guardA ops o m = some false ∧ y kn')) := by
  unfold guardN at h
  unfold guardA
  cases hg : o.guard with
  | none => rw [hg] at h; exact ⟨kn, hk, .inl ⟨rfl, h⟩⟩
  | some g =>
    obtain ⟨j, want⟩ := g
    rw [hg] at h
    simp only at h ⊢
    cases hj : ops[j]? with
    | none => rw [hj] at h; exact h.elim
    | some oj =>
      rw [hj] at h
      simp only at h ⊢
      cases hd : oj.dst with
      | none => rw [hd] at h; exact h.elim
      | some d =>
        rw [hd] at h
        simp only at h ⊢
        split at h
        · rename_i b hb
          obtain ⟨t, ht⟩ := hk d b hb
          rw [ht]
          refine ⟨kn, hk, ?_⟩
          simp only
          split at h
          · rename_i e; rw [e]; exact .inl ⟨rfl, h⟩
          · rename_i e; rw [e]; exact .inr ⟨rfl, h⟩
        · cases hm : m.get d with
          | none => rw [hm] at h; exact h.elim
          | some v =>
            rw [hm] at h
            cases v <;> (try simp only at h ⊢) <;> try (first | exact h.elim; done)
            rotate_left
            · rename_i l
              cases l with
              | nil => exact ⟨kn, hk, .inr ⟨rfl, h⟩⟩
              | cons _ _ => exact h.elim
            cases want with
            | true =>
              rcases fork_elim h with ⟨rfl, h'⟩ | ⟨rfl, h'⟩
              · exact ⟨_, hk.cons hm, .inl ⟨rfl, h'⟩⟩
              · exact ⟨_, hk.cons hm, .inr ⟨rfl, h'⟩⟩
            | false =>
              rcases fork_elim h with ⟨rfl, h'⟩ | ⟨rfl, h'⟩
              · exact ⟨_, hk.cons hm, .inr ⟨rfl, h'⟩⟩
              · exact ⟨_, hk.cons hm, .inl ⟨rfl, h'⟩⟩
theorem stepS_sound {S : Handler} {cl : Caller} (hcl : ClS S cl) {ops : Array Oper} {o : Oper} {m : Tm} {H : Heap} {kn : Kn} (hk : KnOk kn m) {k : Tm → Heap → Kn → Prop} (h : stepS P S ops o m H kn k) :
    ∃ m' H' kn', stepA P cl ops o m H = some (m', H') ∧ KnOk kn' m' ∧ k m' H' kn' := by
  unfold stepS at h
  unfold stepA
  obtain ⟨kn, hk, ⟨hg, h⟩ | ⟨hg, h⟩⟩ := guardN_sound hk h
  · rw [hg]
    have pickT : ∀ c a b t, o.op = .pick (.tmp c) a b → m.get c = some (.bool t true) → ∀ kn', KnOk kn' m → (must (opnd m a) fun v => dstK m o.dst v fun m' => k m' H (strike kn' o.dst)) →
        ∃ m' H' kn', (match opA P o.op m H with
          | none => none
          | some (.val v H') => (m.dst o.dst v).map fun m' => (m', H')
          | some (.enter f args) => match cl f args H with
            | none => none
            | some (v, H') => (m.dst o.dst v).map fun m' => (m', H')) = some (m', H') ∧ KnOk kn' m' ∧ k m' H' kn' := by
      intro c a b t ho hc kn' hk' h
      obtain ⟨v, hv, h⟩ := must_elim h
      obtain ⟨m', hm, h⟩ := dstK_elim h
      have hc' : opnd m (.tmp c) = some (.bool t true) := hc
      exact ⟨m', H, _, by simp only [ho, opA, hc', hv, hm, Option.map_some], hk'.dst hm, h⟩
    have pickF : ∀ c a b t, o.op = .pick (.tmp c) a b → m.get c = some (.bool t false) → ∀ kn', KnOk kn' m → (must (opnd m b) fun v => dstK m o.dst v fun m' => k m' H (strike kn' o.dst)) →
        ∃ m' H' kn', (match opA P o.op m H with
          | none => none
          | some (.val v H') => (m.dst o.dst v).map fun m' => (m', H')
          | some (.enter f args) => match cl f args H with
            | none => none
            | some (v, H') => (m.dst o.dst v).map fun m' => (m', H')) = some (m', H') ∧ KnOk kn' m' ∧ k m' H' kn' := by
      intro c a b t ho hc kn' hk' h
      obtain ⟨v, hv, h⟩ := must_elim h
      obtain ⟨m', hm, h⟩ := dstK_elim h
      have hc' : opnd m (.tmp c) = some (.bool t false) := hc
      exact ⟨m', H, _, by simp only [ho, opA, hc', hv, hm, Option.map_some], hk'.dst hm, h⟩
    split at h
    · rename_i c a b ho
      split at h
      · rename_i hb; obtain ⟨t, ht⟩ := hk _ _ hb; exact pickT c a b t ho ht kn hk h
      · rename_i hb; obtain ⟨t, ht⟩ := hk _ _ hb; exact pickF c a b t ho ht kn hk h
      · split at h
        · rename_i t x hx
          rcases fork_elim h with ⟨rfl, h'⟩ | ⟨rfl, h'⟩
          · exact pickT c a b t ho hx _ (hk.cons hx) h'
          · exact pickF c a b t ho hx _ (hk.cons hx) h'
        · exact h.elim
    · obtain ⟨g, hg', h⟩ := opS_sound h
      rw [hg']
      cases g with
      | val v H' =>
        obtain ⟨m', hm, h⟩ := dstK_elim (heapK_elim h)
        exact ⟨m', H', _, by simp only [hm, Option.map_some], hk.dst hm, h⟩
      | enter f args =>
        obtain ⟨v, H', hc, h⟩ := hcl f args H _ (forceL_elim h)
        obtain ⟨m', hm, h⟩ := dstK_elim (forceH_elim h)
        exact ⟨m', H', _, by simp only [hc, hm, Option.map_some], hk.dst hm, h⟩
  · rw [hg]
    obtain ⟨m', hm, h⟩ := dstK_elim h
    exact ⟨m', H, _, by simp only [hm, Option.map_some], hk.dst hm, h⟩

theorem guardCS_sound {ops : Array Oper} {o : Oper} {m : Tm} {x y : (Tm → (Tm → Prop) → Prop) → Prop} (h : guardCS ops o m x y) :
    ∃ cool, (∀ m' (k : Tm → Prop), cool m' k → k (coolGuard ops o m m')) ∧ ((guardA ops o m = some true ∧ x cool) ∨ (guardA ops o m = some false ∧ y cool)) := by
  unfold guardCS at h
  unfold guardA coolGuard
  cases hg : o.guard with
  | none => rw [hg] at h; exact ⟨_, fun _ _ h => h, .inl ⟨rfl, h⟩⟩
  | some g =>
    obtain ⟨j, want⟩ := g
    rw [hg] at h
    simp only at h ⊢
    cases hj : ops[j]? with
    | none => rw [hj] at h; exact h.elim
    | some oj =>
      rw [hj] at h
      simp only at h ⊢
      cases hd : oj.dst with
      | none => rw [hd] at h; exact h.elim
      | some d =>
        rw [hd] at h
        simp only at h ⊢
        cases hm : m.get d with
        | none => rw [hm] at h; exact h.elim
        | some v =>
          rw [hm] at h
          cases v <;> simp only at h ⊢ <;> try (first | exact h.elim; done)
          rotate_left
          · rename_i l
            cases l with
            | nil => exact ⟨_, fun _ _ h => h, .inr ⟨rfl, h⟩⟩
            | cons _ _ => exact h.elim
          cases want with
          | true =>
            rcases fork_elim h with ⟨rfl, h'⟩ | ⟨rfl, h'⟩
            · exact ⟨_, fun _ _ h => coolK_elim h, .inl ⟨rfl, h'⟩⟩
            · exact ⟨_, fun _ _ h => coolK_elim h, .inr ⟨rfl, h'⟩⟩
          | false =>
            rcases fork_elim h with ⟨rfl, h'⟩ | ⟨rfl, h'⟩
            · exact ⟨_, fun _ _ h => coolK_elim h, .inr ⟨rfl, h'⟩⟩
            · exact ⟨_, fun _ _ h => coolK_elim h, .inl ⟨rfl, h'⟩⟩

theorem coolPick_none {o : Oper} (h : ∀ c a b, o.op ≠ .pick c a b) (m m' : Tm) : coolPick o m m' = m' := by
  unfold coolPick
  split
  · rename_i c a b ho; exact absurd ho (h _ a b)
  · rfl
theorem stepCS_sound {S : Handler} {cl : Caller} (hcl : ClS S cl) {ops : Array Oper} {o : Oper} {m : Tm} {H : Heap} {k : Tm → Heap → Prop} (h : stepCS P S ops o m H k) :
    ∃ m' H', stepC P cl ops o m H = some (m', H') ∧ k m' H' := by
  unfold stepCS at h
  obtain ⟨cool, hc, ⟨hg, h⟩ | ⟨hg, h⟩⟩ := guardCS_sound h
  · split at h
    · rename_i c a b ho
      split at h
      · rename_i t x hx
        rcases fork_elim h with ⟨rfl, h'⟩ | ⟨rfl, h'⟩
        · obtain ⟨v, hv, h'⟩ := must_elim h'
          obtain ⟨m', hm, h'⟩ := dstK_elim h'
          have hk := coolK_elim (hc _ _ h')
          refine ⟨_, H, ?_, hk⟩
          have hx' : opnd m (.tmp c) = some (.bool t true) := hx
          simp only [stepC, stepA, hg, ho, opA, hx', hv, hx, hm, Option.map_some, coolPick]
        · obtain ⟨v, hv, h'⟩ := must_elim h'
          obtain ⟨m', hm, h'⟩ := dstK_elim h'
          have hk := coolK_elim (hc _ _ h')
          refine ⟨_, H, ?_, hk⟩
          have hx' : opnd m (.tmp c) = some (.bool t false) := hx
          simp only [stepC, stepA, hg, ho, opA, hx', hv, hx, hm, Option.map_some, coolPick]
      · exact h.elim
    · exact h.elim
    · rename_i hno1 hno2
      have hno : ∀ c a b, o.op ≠ .pick c a b := fun c a b e => hno2 c a b e
      obtain ⟨g, hg', h⟩ := opS_sound h
      cases g with
      | val v H' =>
        obtain ⟨m', hm, h⟩ := dstK_elim (heapK_elim h)
        have hk := hc _ _ h
        exact ⟨_, H', by simp only [stepC, stepA, hg, hg', hm, Option.map_some, coolPick_none hno], hk⟩
      | enter f args =>
        obtain ⟨v, H', hcv, h⟩ := hcl f args H _ (forceL_elim h)
        obtain ⟨m', hm, h⟩ := dstK_elim (forceH_elim h)
        have hk := hc _ _ h
        exact ⟨_, H', by simp only [stepC, stepA, hg, hg', hcv, hm, Option.map_some, coolPick_none hno], hk⟩
  · split at h
    · rename_i c a b ho
      split at h
      · rename_i hx
        obtain ⟨m', hm, h⟩ := dstK_elim h
        have hk := hc _ _ h
        exact ⟨_, H, by simp only [stepC, stepA, hg, hm, Option.map_some, coolPick, ho, hx], hk⟩
      · exact h.elim
    · exact h.elim
    · rename_i hno1 hno
      obtain ⟨m', hm, h⟩ := dstK_elim h
      have hk := hc _ _ h
      exact ⟨_, H, by simp only [stepC, stepA, hg, hm, Option.map_some, coolPick_none (fun c a b e => hno c a b e)], hk⟩

theorem opsS_sound {S : Handler} {cl : Caller} (hcl : ClS S cl) {ops : Array Oper} : ∀ {l : List Oper} {m : Tm} {H : Heap} {k : Tm → Heap → Prop}, opsS P S ops l m H k → ∃ m' H', opsA P cl ops l m H = some (m', H') ∧ k m' H'
  | [], m, H, k, h => ⟨m, H, rfl, h⟩
  | o :: l, m, H, k, h => by
    obtain ⟨m1, H1, h1, h⟩ := stepCS_sound hcl h
    obtain ⟨m2, H2, h2, hk⟩ := opsS_sound hcl h
    exact ⟨m2, H2, by simp only [opsA, h1, h2], hk⟩

/-- A later heap: a row whose number is the same is the same. -/
def Later (H H' : Heap) : Prop := H.n ≤ H'.n ∧ ∀ g, g < H.n → H.gen g ≤ H'.gen g ∧ (H'.gen g = H.gen g → H'.get g = H.get g)
theorem Later.refl (H : Heap) : Later H H := ⟨Nat.le_refl _, fun _ _ => ⟨Nat.le_refl _, fun _ => rfl⟩⟩
theorem Later.trans {H H1 H2 : Heap} (h : Later H H1) (k : Later H1 H2) : Later H H2 :=
  ⟨Nat.le_trans h.1 k.1, fun g hg => by
    obtain ⟨a1, a2⟩ := h.2 g hg
    obtain ⟨b1, b2⟩ := k.2 g (Nat.lt_of_lt_of_le hg h.1)
    exact ⟨Nat.le_trans a1 b1, fun e => by rw [b2 (by omega), a2 (by omega)]⟩⟩
theorem Later.push (H : Heap) (o : AObj) : Later H (H.push o) :=
  ⟨by simp, fun g hg => ⟨Nat.le_refl _, fun _ => by rw [Heap.get_push, if_neg (by omega)]⟩⟩
theorem Later.set (H : Heap) (g : Nat) (o : AObj) : Later H (H.set g o) :=
  ⟨by simp, fun h hh => by
    have hgen : (H.set g o).gen h = if h = g then H.gen g + 1 else H.gen h := by
      have h1 : (H.set g o).w.get h = if h = g then some (H.gen g + 1) else H.w.get h := Trie.get_set ..
      by_cases e : h = g
      · rw [if_pos e] at h1 ⊢
        unfold Heap.gen at h1 ⊢
        rw [h1]
      · rw [if_neg e] at h1 ⊢
        unfold Heap.gen
        rw [h1]
    rw [hgen]
    by_cases e : h = g
    · subst e
      rw [if_pos rfl]
      exact ⟨by omega, fun e => by omega⟩
    · rw [if_neg e]
      exact ⟨Nat.le_refl _, fun _ => by rw [Heap.get_set, if_neg e]⟩⟩

theorem freezeV_later {f : Nat → List AV → Heap → Option (List AV × Heap)} (hf : ∀ n l H l' H', f n l H = some (l', H') → Later H H') {t : Ty} {v v' : AV} {H H' : Heap} (h : freezeV f t v H = some (v', H')) : Later H H' := by
  unfold freezeV at h
  split at h
  · split at h
    · obtain ⟨_, _, he⟩ := map_got h; cases he; exact Later.refl _
    · obtain ⟨_, _, he⟩ := map_got h; cases he; exact Later.set _ _ _
    · split at h
      · rename_i h1
        split at h
        · split at h
          · obtain ⟨_, _, he⟩ := map_got h; cases he; exact (hf _ _ _ _ _ h1).trans (Later.set _ _ _)
          · cases h
        · cases h
      · cases h
    · cases h
  · cases h; exact Later.refl _
theorem meltN_later {f : List AV → Heap → Option (List AV × List AV × Heap)} (hf : ∀ l H d l' H', f l H = some (d, l', H') → Later H H') : ∀ (n : Nat) (l : List AV) (H : Heap) (l' : List AV) (H' : Heap), meltN f n l H = some (l', H') → Later H H' := by
  intro n
  induction n with
  | zero =>
    intro l H l' H' h
    cases l with
    | nil => simp only [meltN, Option.some.injEq, Prod.mk.injEq] at h; obtain ⟨_, rfl⟩ := h; exact Later.refl _
    | cons => simp [meltN] at h
  | succ n ih =>
    intro l H l' H' h
    simp only [meltN] at h
    split at h
    · rename_i h1
      split at h
      · rename_i h2; cases h; exact (hf _ _ _ _ _ h1).trans (ih _ _ _ _ h2)
      · cases h
    · cases h
theorem meltT_later : (t : Ty) → ∀ (l : List AV) (H : Heap) (d l' : List AV) (H' : Heap), meltT t l H = some (d, l', H') → Later H H'
  | .sl t, l, H, d, l', H', h => by
    cases l with
    | nil => simp [meltT] at h
    | cons v l =>
      simp only [meltT] at h
      obtain ⟨u, hu, he⟩ := map_got h
      cases he
      exact freezeV_later (meltN_later (meltT_later t)) hu
  | .pair a b, l, H, d, l', H', h => by
    simp only [meltT] at h
    split at h
    · rename_i h1
      split at h
      · rename_i h2; cases h; exact (meltT_later a _ _ _ _ _ h1).trans (meltT_later b _ _ _ _ _ h2)
      · cases h
    · cases h
  | .unit, l, H, d, l', H', h => by simp only [meltT, Option.some.injEq, Prod.mk.injEq] at h; obtain ⟨_, _, rfl⟩ := h; exact Later.refl _
  | .bool, l, H, d, l', H', h => by cases l <;> simp [meltT] at h; obtain ⟨_, _, rfl⟩ := h; exact Later.refl _
  | .int _, l, H, d, l', H', h => by cases l <;> simp [meltT] at h; obtain ⟨_, _, rfl⟩ := h; exact Later.refl _
  | .byte, l, H, d, l', H', h => by cases l <;> simp [meltT] at h; obtain ⟨_, _, rfl⟩ := h; exact Later.refl _
  | .str, l, H, d, l', H', h => by cases l <;> simp [meltT] at h; obtain ⟨_, _, rfl⟩ := h; exact Later.refl _
theorem settle_later {g : Nat} {e : TypeId} {H H' : Heap} (h : settle P g e H = some H') : Later H H' := by
  unfold settle at h
  split at h
  · cases h; exact Later.refl _
  · split at h
    · split at h
      · rename_i h1
        split at h
        · split at h
          · cases h; exact (meltN_later (meltT_later _) _ _ _ _ _ h1).trans (Later.set _ _ _)
          · cases h
        · cases h
      · cases h
    · cases h
theorem storeV_later {H H' : Heap} {t : TypeId} {r : Ref} {v : AV} (h : storeV P H t r v = some H') : Later H H' := by
  unfold storeV at h
  split at h
  · split at h
    · split at h
      · split at h
        · cases h; exact Later.set _ _ _
        · cases h
      · cases h
    · cases h
  · cases h
theorem appendA_later {H H' : Heap} {t : TypeId} {s x v : AV} (h : appendA P t s x H = some (v, H')) : Later H H' := by
  unfold appendA at h
  split at h
  · cases h
  · split at h
    · split at h
      · cases h
      · split at h
        · cases h
        · split at h
          · split at h
            · obtain ⟨_, h⟩ := Option.ite_none_right_eq_some.mp h
              cases h; exact Later.refl _
            · cases h
          · split at h
            · split at h
              · cases h; exact Later.push _ _
              · cases h
            · split at h
              · split at h
                · split at h
                  · cases h; exact (Later.set _ _ _).trans (Later.push _ _)
                  · cases h
                · cases h
              · cases h
            · cases h
    · cases h
theorem convA_later {H H' : Heap} {s d : TypeId} {x v : AV} (h : convA P s d x H = some (v, H')) : Later H H' := by
  unfold convA at h
  split at h
  · cases h; exact Later.refl _
  · cases h; exact Later.refl _
  · split at h
    · cases h; exact Later.push _ _
    · cases h
  · split at h
    · split at h
      · obtain ⟨_, _, he⟩ := map_some h; cases he; exact Later.refl _
      · cases h
    · cases h
  · split at h
    · cases h; exact Later.refl _
    · cases h
  · cases h
theorem makeSliceA_later {H H' : Heap} {t : TypeId} {l c v : AV} (h : makeSliceA P t l c H = some (v, H')) : Later H H' := by
  unfold makeSliceA at h
  split at h
  · split at h
    · split at h
      · cases h; exact Later.push _ _
      · cases h
    · cases h
  · cases h
theorem callA_later {H H' : Heap} {c : Call} {m : Tm} {v : AV} (h : callA P c m H = some (.val v H')) : Later H H' := by
  unfold callA at h
  split at h
  · cases h
  · split at h
    · unfold builtinA at h
      split at h
      · obtain ⟨_, _, he⟩ := map_some h; cases he; exact Later.refl _
      · obtain ⟨_, _, he⟩ := map_some h; cases he; exact Later.refl _
      · obtain ⟨_, _, he⟩ := map_some h; cases he; exact Later.refl _
      · split at h
        · obtain ⟨⟨_, _⟩, h1, he⟩ := map_some h; cases he; exact appendA_later h1
        · cases h
      · cases h
    · split at h
      · split at h
        · split at h <;> cases h
        · cases h
      · cases h
    · cases h
theorem opA_later {H H' : Heap} {o : Op} {m : Tm} {v : AV} (h : opA P o m H = some (.val v H')) : Later H H' := by
  cases he : isEff P o with
  | false =>
    obtain ⟨v', hv, _⟩ := opA_still (H' := H) he h fun _ _ => rfl
    cases hv
    exact Later.refl _
  | true =>
    cases o <;> simp only [isEff] at he <;> try (first | (cases he; done))
    case alloc t =>
      simp only [opA] at h
      split at h
      · split at h
        · cases h; exact Later.push _ _
        · cases h
      · cases h
    case box t x =>
      simp only [opA] at h
      split at h
      · split at h
        · cases h; exact Later.push _ _
        · cases h
      · cases h
    case buildSlice t n ps =>
      simp only [opA] at h
      split at h
      · split at h
        · split at h
          · split at h
            · split at h
              · obtain ⟨_, h1, he⟩ := map_got h; cases he; exact (Later.push _ _).trans (settle_later h1)
              · cases h
            · cases h
          · cases h
        · cases h
      · cases h
    case store t x y =>
      simp only [opA] at h
      split at h
      · obtain ⟨_, h1, he⟩ := map_some h; cases he; exact storeV_later h1
      · cases h
    case convert s d x =>
      simp only [opA] at h
      split at h
      · obtain ⟨⟨_, _⟩, h1, he⟩ := map_some h; cases he; exact convA_later h1
      · cases h
    case makeSlice t l c =>
      simp only [opA] at h
      split at h
      · obtain ⟨⟨_, _⟩, h1, he⟩ := map_some h; cases he; exact makeSliceA_later h1
      · cases h
    case call c => simp only [opA] at h; exact callA_later h

def ClLater (cl : Caller) : Prop := ∀ f args H v H', cl f args H = some (v, H') → Later H H'
theorem stepA_later {cl : Caller} (hL : ClLater cl) {ops : Array Oper} {o : Oper} {m m' : Tm} {H H' : Heap} (h : stepA P cl ops o m H = some (m', H')) : Later H H' := by
  unfold stepA at h
  split at h
  · cases h
  · obtain ⟨_, _, he⟩ := map_some h; cases he; exact Later.refl _
  · split at h
    · cases h
    · rename_i hop; obtain ⟨_, _, he⟩ := map_some h; cases he; exact opA_later hop
    · split at h
      · cases h
      · rename_i hc; obtain ⟨_, _, he⟩ := map_some h; cases he; exact hL _ _ _ _ _ hc
theorem opsA_later {cl : Caller} (hL : ClLater cl) {ops : Array Oper} : ∀ {l : List Oper} {m m' : Tm} {H H' : Heap}, opsA P cl ops l m H = some (m', H') → Later H H'
  | [], m, m', H, H', h => by simp only [opsA] at h; cases h; exact Later.refl _
  | o :: l, m, m', H, H', h => by
    simp only [opsA] at h
    split at h
    · cases h
    · rename_i hs
      unfold stepC at hs
      obtain ⟨⟨_, _⟩, h1, he⟩ := map_some hs
      cases he
      exact (stepA_later hL h1).trans (opsA_later hL h)
theorem traceA_later {cl : Caller} (hL : ClLater cl) {ops : Array Oper} : ∀ {l : List Oper} {m m' : Tm} {H H' : Heap} {tr : List (Heap × Option Nat)}, traceA P cl ops l m H = some (m', H', tr) → Later H H'
  | [], m, m', H, H', tr, h => by simp only [traceA] at h; cases h; exact Later.refl _
  | o :: l, m, m', H, H', tr, h => by
    simp only [traceA] at h
    split at h
    · cases h
    · rename_i hs
      split at h
      · cases h
      · rename_i ht
        cases h
        exact (stepA_later hL hs).trans (traceA_later hL ht)
theorem execA_later {cl : Caller} (hL : ClLater cl) : ∀ (n : Nat) (c : Code) {m m' : Tm} {H H' : Heap} {o : Out}, execA P cl n c m H = some (o, m', H') → Later H H'
  | 0, c, m, m', H, H', o, h => by simp only [execA] at h; cases h
  | n + 1, c, m, m', H, H', o, h => by
    cases c with
    | skip => simp only [execA] at h; cases h; exact Later.refl _
    | label l => simp only [execA] at h; cases h; exact Later.refl _
    | exit id => simp only [execA] at h; cases h; exact Later.refl _
    | ret => simp only [execA] at h; cases h; exact Later.refl _
    | region id ops draw =>
      simp only [execA] at h
      obtain ⟨⟨m1, H1⟩, h1, he⟩ := map_some h
      cases he
      cases draw with
      | true =>
        rw [if_pos rfl] at h1
        unfold drawA at h1
        split at h1
        · split at h1
          · cases h1
          · rename_i ht
            split at h1
            · cases h1; exact traceA_later hL ht
            · cases h1
        · cases h1
      | false => rw [if_neg (by simp)] at h1; exact opsA_later hL h1
    | seq a b =>
      simp only [execA] at h
      split at h
      · rename_i h1; exact (execA_later hL n a h1).trans (execA_later hL n b h)
      · exact execA_later hL n a h
    | cond x a b =>
      simp only [execA] at h
      split at h
      · exact execA_later hL n a h
      · exact execA_later hL n b h
      · cases h
    | block id b =>
      simp only [execA] at h
      split at h
      · rename_i h1
        split at h
        · cases h; exact execA_later hL n b h1
        · cases h; exact execA_later hL n b h1
      · exact execA_later hL n b h
    | loop b =>
      simp only [execA] at h
      split at h
      · rename_i h1; exact (execA_later hL n b h1).trans (execA_later hL n (.loop b) h)
      · exact execA_later hL n b h
    | _ => simp only [execA] at h; cases h
theorem bodyA_later {cl : Caller} (hL : ClLater cl) {n : Nat} {fn : Func} {c : Code} {args : List AV} {H H' : Heap} {v : AV} (h : bodyA P cl n fn c args H = some (v, H')) : Later H H' := by
  unfold bodyA at h
  split at h
  · split at h
    · rename_i h1; obtain ⟨_, _, he⟩ := map_some h; cases he; exact execA_later hL n c h1
    · rename_i h1; obtain ⟨_, _, he⟩ := map_some h; cases he; exact execA_later hL n c h1
    · cases h
  · cases h
theorem callA__later : ∀ n, ClLater (callA_ P n)
  | 0 => fun f args H v H' h => by simp only [callA_] at h; cases h
  | n + 1 => fun f args H v H' h => by
    simp only [callA_] at h
    split at h
    · split at h
      · exact bodyA_later (callA__later n) h
      · cases h
    · cases h

def Valid (tr : List Entry) (Hl : Heap) : Prop := ∀ j Hj rd, tr[j]? = some (Hj, rd) → Later Hj (nextH tr Hl j)
theorem traceS_sound {S : Handler} {cl : Caller} (hcl : ClS S cl) (hL : ClLater cl) {ops : Array Oper} : ∀ {l : List Oper} {m : Tm} {H : Heap} {kn : Kn} (_ : KnOk kn m) {k : Tm → Heap → List Entry → Prop}, traceS P S ops l m H kn k →
    ∃ m' H' tr, traceA P cl ops l m H = some (m', H', tr) ∧ Valid tr H' ∧ k m' H' tr ∧ ((tr[0]?).map (·.1) = some H ∨ (tr = [] ∧ H' = H))
  | [], m, H, kn, _, k, h => ⟨m, H, [], rfl, fun j Hj rd h => by simp at h, h, .inr ⟨rfl, rfl⟩⟩
  | o :: l, m, H, kn, hkn, k, h => by
    obtain ⟨m1, H1, kn1, h1, hkn1, h⟩ := stepS_sound hcl hkn h
    obtain ⟨m2, H2, tr, h2, hv, hk, h0⟩ := traceS_sound hcl hL hkn1 h
    refine ⟨m2, H2, _, by simp only [traceA, h1, h2], fun j Hj rd hj => ?_, hk, .inl rfl⟩
    cases j with
    | zero =>
      simp only [List.getElem?_cons_zero, Option.some.injEq, Prod.mk.injEq] at hj
      obtain ⟨rfl, rfl⟩ := hj
      have := stepA_later hL h1
      unfold nextH
      simp only [Nat.zero_add, List.getElem?_cons_succ]
      rcases h0 with h0 | ⟨rfl, rfl⟩
      · cases hq : tr[0]? with
        | none => rw [hq] at h0; cases h0
        | some e =>
          rw [hq] at h0
          simp only [Option.map_some, Option.some.injEq] at h0
          subst h0
          exact this
      · simpa using this
    | succ j =>
      simp only [List.getElem?_cons_succ] at hj
      have := hv j Hj rd hj
      unfold nextH at this ⊢
      simpa using this

theorem pairS_sound {ops : Array Oper} {b : Array Nat} {tr : List Entry} {Hl : Heap} (hv : Valid tr Hl) {j i : Nat} {p : Prop} (h : pairS ops b tr Hl j i p) :
    p ∧ ∀ g Hi Hj rj, (b.getD j 0).testBit i = false → (b.getD i 0).testBit j = false → tr[i]? = some (Hi, some g) → tr[j]? = some (Hj, rj) → Hj.get g = (nextH tr Hl j).get g := by
  unfold pairS at h
  split at h
  · rename_i hb
    refine ⟨h, fun g Hi Hj rj h1 h2 => ?_⟩
    rw [h1, h2] at hb
    cases hb
  · split at h
    · rename_i g Hj rj hi hj
      split at h
      · rename_i hc
        refine ⟨h, fun g' Hi' Hj' rj' _ _ h3 h4 => ?_⟩
        rw [hi] at h3; rw [hj] at h4
        cases h3; cases h4
        simp only [Bool.and_eq_true] at hc
        exact ((hv j _ _ hj).2 _ (Nat.blt_eq.mp hc.2)).2 (Nat.eq_of_beq_eq_true hc.1).symm |>.symm
      · refine ⟨h.2, fun g' Hi' Hj' rj' _ _ h3 h4 => ?_⟩
        rw [hi] at h3; rw [hj] at h4
        cases h3; cases h4
        exact h.1
    · rename_i h5
      exact ⟨h, fun g' Hi' Hj' rj' _ _ h3 h4 => (h5 _ _ _ _ h3 h4).elim⟩
theorem pairsS_sound {ops : Array Oper} {b : Array Nat} {tr : List Entry} {Hl : Heap} (hv : Valid tr Hl) {j : Nat} : ∀ {l : List Nat} {p : Prop}, pairsS ops b tr Hl j l p →
    p ∧ ∀ i, i ∈ l → reads ops i = true → ∀ g Hi Hj rj, (b.getD j 0).testBit i = false → (b.getD i 0).testBit j = false → tr[i]? = some (Hi, some g) → tr[j]? = some (Hj, rj) → Hj.get g = (nextH tr Hl j).get g
  | [], p, h => ⟨h, fun i hi => by cases hi⟩
  | i :: l, p, h => by
    simp only [pairsS] at h
    split at h
    · obtain ⟨h, h1⟩ := pairS_sound hv h
      obtain ⟨h, h2⟩ := pairsS_sound hv h
      refine ⟨h, fun i' hi => ?_⟩
      rcases List.mem_cons.1 hi with rfl | hi
      · exact fun _ => h1
      · exact h2 i' hi
    · rename_i hn
      obtain ⟨h, h2⟩ := pairsS_sound hv h
      refine ⟨h, fun i' hi => ?_⟩
      rcases List.mem_cons.1 hi with rfl | hi
      · intro hr; rw [hn] at hr; cases hr
      · exact h2 i' hi
theorem readsS_sound {ops : Array Oper} {b : Array Nat} {tr : List Entry} {Hl : Heap} (hv : Valid tr Hl) : ∀ {l : List Nat} {p : Prop}, readsS P ops b tr Hl l p →
    p ∧ ∀ j, j ∈ l → ∀ y, ops[j]? = some y → isEff P y.op = true → ∀ i, i < ops.size → reads ops i = true → ∀ g Hi Hj rj, (b.getD j 0).testBit i = false → (b.getD i 0).testBit j = false → tr[i]? = some (Hi, some g) → tr[j]? = some (Hj, rj) → Hj.get g = (nextH tr Hl j).get g
  | [], p, h => ⟨h, fun i hi => by cases hi⟩
  | j :: l, p, h => by
    unfold readsS at h
    split at h
    · rename_i y hy
      split at h
      · obtain ⟨h, h1⟩ := pairsS_sound hv h
        obtain ⟨h, h2⟩ := readsS_sound hv h
        refine ⟨h, fun j' hj => ?_⟩
        rcases List.mem_cons.1 hj with rfl | hj
        · exact fun y' _ _ i hi => h1 i (List.mem_range.2 hi)
        · exact h2 j' hj
      · rename_i he
        obtain ⟨h, h2⟩ := readsS_sound hv h
        refine ⟨h, fun j' hj => ?_⟩
        rcases List.mem_cons.1 hj with rfl | hj
        · intro y' hy' he'
          rw [hy] at hy'
          cases hy'
          rw [he] at he'
          cases he'
        · exact h2 j' hj
    · rename_i hn
      obtain ⟨h, h2⟩ := readsS_sound hv h
      refine ⟨h, fun j' hj => ?_⟩
      rcases List.mem_cons.1 hj with rfl | hj
      · intro y' hy'
        rw [hn] at hy'
        cases hy'
      · exact h2 j' hj

theorem trace_reads {cl : Caller} {ops : Array Oper} : ∀ {l : List Oper} {m m' : Tm} {H H' : Heap} {tr : List (Heap × Option Nat)}, traceA P cl ops l m H = some (m', H', tr) → ∀ (i : Nat) (o : Oper) (Hi : Heap) (g : Nat), l[i]? = some o → tr[i]? = some (Hi, some g) → ∃ mi, readOf o.op mi = some g
  | [], m, m', H, H', tr, h, i, o, Hi, g, hi, ht => by simp at hi
  | o :: l, m, m', H, H', tr, h, i, o', Hi, g, hi, ht => by
    simp only [traceA] at h
    split at h
    · cases h
    · split at h
      · cases h
      · rename_i h2
        simp only [Option.some.injEq, Prod.mk.injEq] at h
        obtain ⟨rfl, rfl, rfl⟩ := h
        cases i with
        | zero =>
          simp only [List.getElem?_cons_zero, Option.some.injEq, Prod.mk.injEq] at hi ht
          subst hi
          exact ⟨m, ht.2⟩
        | succ i =>
          simp only [List.getElem?_cons_succ] at hi ht
          exact trace_reads h2 i o' Hi g hi ht
theorem drawS_sound {D : Handler} {cl : Caller} (hcl : ClS D cl) (hL : ClLater cl) {ops : Array Oper} (hd : drawOk P ops (Region.before ops) = true) {m : Tm} {H : Heap} {k : Tm → Heap → Prop} (h : drawS P D ops m H k) : ∃ m' H', drawA P cl ops m H = some (m', H') ∧ k m' H' := by
  unfold drawS at h
  obtain ⟨m', H', tr, ht, hv, h, _⟩ := traceS_sound hcl hL (fun d b hd => by simp only [knows?] at hd; cases hd) h
  obtain ⟨hk, hr⟩ := readsS_sound hv h
  refine ⟨m', H', ?_, hk⟩
  unfold drawA
  rw [if_pos hd, ht]
  simp only
  rw [if_pos]
  intro i j g x y Hi Hj hi hj he h1 h2 h3 h4
  have hji : j < ops.size := (Array.getElem?_eq_some_iff.mp hj).1
  have hii : i < ops.size := (Array.getElem?_eq_some_iff.mp hi).1
  have hread : reads ops i = true := by
    obtain ⟨mi, hm⟩ := trace_reads ht i x Hi g (by simpa using hi) h3
    unfold reads
    rw [hi]
    unfold readOf at hm
    split at hm
    · rename_i ho; simp only [ho]
    · rename_i ho; simp only [ho]
    · cases hm
  cases htj : tr[j]? with
  | none => rw [htj] at h4; cases h4
  | some ej =>
    obtain ⟨aj, bj⟩ := ej
    rw [htj] at h4
    simp only [Option.map_some, Option.some.injEq] at h4
    subst h4
    have := hr j (List.mem_range.2 hji) y hj he i hii hread g _ _ _ h1 h2 h3 htj
    rw [this]
    unfold nextH
    cases tr[j + 1]? with
    | none => rfl
    | some e => rfl

/-- Code, calls run in place. -/
theorem drawOk_loose {ops : Array Oper} (h : drawOk P ops (Region.before ops) = true) : looseOk P ops (Region.before ops) = true := by
  unfold drawOk at h
  simp only [Bool.and_eq_true] at h
  exact h.2
theorem execS_run {S : Handler} {cl : Caller} (hcl : ClS S cl) (hL : ClLater cl) : ∀ (n : Nat) (c : Code) (_ : codePl P c = true) {m : Tm} {H : Heap} {k : Out → Tm → Heap → Prop}, execS P S S (fun _ _ _ _ => none) n c m H k → ∃ o m' H', execA P cl n c m H = some (o, m', H') ∧ k o m' H'
  | 0, c, _, m, H, k, h => by simp only [execS] at h
  | n + 1, c, hC, m, H, k, h => by
    cases c with
    | skip => simp only [execS] at h; exact ⟨_, _, _, rfl, h⟩
    | label l => simp only [execS] at h; exact ⟨_, _, _, rfl, h⟩
    | exit id => simp only [execS] at h; exact ⟨_, _, _, rfl, h⟩
    | ret => simp only [execS] at h; exact ⟨_, _, _, rfl, h⟩
    | region id ops draw =>
      cases draw with
      | true =>
        simp only [execS] at h
        have hC : drawOk P ops (Region.before ops) = true := by simpa only [codePl] using hC
        obtain ⟨m', H', h1, hk⟩ := drawS_sound hcl hL hC (allS_elim h ops (by rw [turns_one (drawOk_loose hC)]; simp))
        exact ⟨_, _, _, by simp only [execA, if_true, h1, Option.map_some], hk⟩
      | false =>
        simp only [execS] at h
        obtain ⟨m', H', h1, hk⟩ := opsS_sound hcl h
        exact ⟨_, _, _, by simp only [execA, Bool.false_eq_true, if_false, h1, Option.map_some], hk⟩
    | seq a b =>
      simp only [codePl, Bool.and_eq_true] at hC
      simp only [execS] at h
      obtain ⟨o, m1, H1, h1, h⟩ := execS_run hcl hL n a hC.1 h
      cases o with
      | norm =>
        obtain ⟨o2, m2, H2, h2, hk⟩ := execS_run hcl hL n b hC.2 h
        exact ⟨_, _, _, by simp only [execA, h1, h2], hk⟩
      | exit id => exact ⟨_, _, _, by simp only [execA, h1], h⟩
      | ret => exact ⟨_, _, _, by simp only [execA, h1], h⟩
    | cond x a b =>
      simp only [codePl, Bool.and_eq_true] at hC
      simp only [execS] at h
      split at h
      · rename_i t y hx
        rcases fork_elim h with ⟨rfl, h'⟩ | ⟨rfl, h'⟩
        · obtain ⟨o, m1, H1, h1, hk⟩ := execS_run hcl hL n a hC.1 (coolXK_elim h')
          exact ⟨_, _, _, by simp only [execA, hx, h1], hk⟩
        · obtain ⟨o, m1, H1, h1, hk⟩ := execS_run hcl hL n b hC.2 (coolXK_elim h')
          exact ⟨_, _, _, by simp only [execA, hx, h1], hk⟩
      · exact h.elim
    | block id b =>
      have hb : codePl P b = true := by simpa only [codePl] using hC
      simp only [execS] at h
      obtain ⟨o, m1, H1, h1, h⟩ := execS_run hcl hL n b hb h
      cases o with
      | norm => exact ⟨_, _, _, by simp only [execA, h1], h⟩
      | ret => exact ⟨_, _, _, by simp only [execA, h1], h⟩
      | exit id' =>
        simp only at h
        split at h
        · rename_i hb
          exact ⟨_, _, _, by simp only [execA, h1, if_pos (Nat.eq_of_beq_eq_true hb)], h⟩
        · rename_i hb
          exact ⟨_, _, _, by simp only [execA, h1, if_neg (Nat.ne_of_beq_eq_false hb)], h⟩
    | loop b =>
      have hb : codePl P b = true := by simpa only [codePl] using hC
      simp only [execS] at h
      obtain ⟨o, m1, H1, h1, h⟩ := execS_run hcl hL n b hb h
      cases o with
      | norm =>
        obtain ⟨o2, m2, H2, h2, hk⟩ := execS_run hcl hL n (.loop b) hC h
        exact ⟨_, _, _, by simp only [execA, h1, h2], hk⟩
      | exit id => exact ⟨_, _, _, by simp only [execA, h1], h⟩
      | ret => exact ⟨_, _, _, by simp only [execA, h1], h⟩
    | _ => simp only [execS] at h

theorem fn_ok (hP : progOk P = true) {f : FuncId} {fn : Func} {c : Code} (hf : P.funcs[f]? = some fn) (hc : fn.body = some c) : codeOk P c = true := by
  unfold progOk at hP
  have := Array.all_eq_true'.mp hP fn (Array.mem_of_getElem? hf)
  simpa only [fnOk, hc] using this

end sound
end Go.Vx
