/- The evaluator on values that hang on the input: conditions are told, not tried. Operations. (A help: no statement of the seat is proved here.) -/
import Derived.Test.YtgmlklaehklmoaaVxE
set_option linter.unusedVariables false
set_option linter.unusedSimpArgs false
namespace Go.Vx

/-- A check: told where it hangs on the input, else tried. -/
def need (t : Bool) (c : Prop) [d : Decidable c] (p : Prop) : Prop := bif t then c ∧ p else match d with
  | .isTrue _ => p
  | .isFalse _ => False
theorem need_elim {t : Bool} {c : Prop} [d : Decidable c] {p : Prop} (h : need t c p) : c ∧ p := by
  unfold need at h
  cases t with
  | true => exact h
  | false =>
    cases d with
    | isTrue hc => exact ⟨hc, h⟩
    | isFalse hc => exact h.elim
/-- A fork: both ways where it hangs on the input. -/
def fork (t b : Bool) (x y : Prop) : Prop := bif t then (b = true → x) ∧ (b = false → y) else match b with
  | true => x
  | false => y
theorem fork_elim {t b : Bool} {x y : Prop} (h : fork t b x y) : (b = true ∧ x) ∨ (b = false ∧ y) := by
  unfold fork at h
  cases t with
  | true =>
    cases b with
    | true => exact .inl ⟨rfl, h.1 rfl⟩
    | false => exact .inr ⟨rfl, h.2 rfl⟩
  | false =>
    cases b with
    | true => exact .inl ⟨rfl, h⟩
    | false => exact .inr ⟨rfl, h⟩
/-- What an answer comes to. -/
def must {α : Type} (x : Option α) (k : α → Prop) : Prop := match x with
  | some v => k v
  | none => False
theorem must_elim {α : Type} {x : Option α} {k : α → Prop} (h : must x k) : ∃ v, x = some v ∧ k v := by
  cases x with
  | none => exact h.elim
  | some v => exact ⟨v, rfl, h⟩

def intsOf (k : IntKind) : List AV → Option (List Int)
  | [] => some []
  | .int _ k' n :: l => if k = k' then (intsOf k l).map (n :: ·) else none
  | _ :: _ => none
def strsOf : List AV → Option (List (List UInt8))
  | [] => some []
  | .str _ s :: l => (strsOf l).map (s :: ·)
  | _ :: _ => none

/-! Cells as data, told. -/
def decBoolS (l : List AV) (k : Bool → List AV → Prop) : Prop := match l with
  | .bool _ b :: l => k b l
  | _ => False
def decIntS (kd : IntKind) (l : List AV) (k : Int → List AV → Prop) : Prop := match l with
  | .int _ k' n :: l => if kd = k' then k n l else False
  | _ => False
def decByteS (l : List AV) (k : UInt8 → List AV → Prop) : Prop := match l with
  | .int t k' n :: l => if k' = .u8 then need t (0 ≤ n ∧ n < 256) (k (UInt8.ofNat n.toNat) l) else False
  | _ => False
def decStrS (l : List AV) (k : List UInt8 → List AV → Prop) : Prop := match l with
  | .str _ s :: l => k s l
  | _ => False
def decSlS (t : Ty) (l : List AV) (k : List t.den → List AV → Prop) : Prop := match l with
  | .vec t' x :: l => if h : t' = t then k (h ▸ x) l else False
  | .slice _ r _ _ :: l => match r with
    | none => k [] l
    | some _ => False
  | _ => False
def decS : (t : Ty) → List AV → (t.den → List AV → Prop) → Prop
  | .bool, l, k => decBoolS l k
  | .int kd, l, k => decIntS kd l k
  | .byte, l, k => decByteS l k
  | .str, l, k => decStrS l k
  | .sl t, l, k => decSlS t l k
  | .unit, l, k => k () l
  | .pair a b, l, k => decS a l fun x l => decS b l fun y l => k (x, y) l
theorem decS_elim : (t : Ty) → {l : List AV} → {k : t.den → List AV → Prop} → decS t l k → ∃ x rest, dec t l = some (x, rest) ∧ k x rest
  | .bool, l, k, h => by
    simp only [decS] at h
    unfold decBoolS at h
    split at h
    · exact ⟨_, _, rfl, h⟩
    · exact h.elim
  | .int kd, l, k, h => by
    simp only [decS] at h
    unfold decIntS at h
    split at h
    · split at h
      · rename_i hk; exact ⟨_, _, by simp only [dec, decInt, if_pos hk], h⟩
      · exact h.elim
    · exact h.elim
  | .byte, l, k, h => by
    simp only [decS] at h
    unfold decByteS at h
    split at h
    · split at h
      · rename_i hk
        obtain ⟨h1, h2⟩ := need_elim h
        exact ⟨_, _, by simp only [dec, decByte, if_pos (And.intro hk h1)], h2⟩
      · exact h.elim
    · exact h.elim
  | .str, l, k, h => by
    simp only [decS] at h
    unfold decStrS at h
    split at h
    · exact ⟨_, _, rfl, h⟩
    · exact h.elim
  | .sl t, l, k, h => by
    simp only [decS] at h
    unfold decSlS at h
    split at h
    · split at h
      · rename_i ht; exact ⟨_, _, by simp only [dec, decSl, dif_pos ht], h⟩
      · exact h.elim
    · split at h
      · exact ⟨_, _, rfl, h⟩
      · exact h.elim
    · exact h.elim
  | .unit, l, k, h => ⟨_, _, rfl, h⟩
  | .pair a b, l, k, h => by
    simp only [decS] at h
    obtain ⟨x, l', hx, h⟩ := decS_elim a h
    obtain ⟨y, l'', hy, h⟩ := decS_elim b h
    exact ⟨_, _, by simp only [dec, hx, hy], h⟩
def dec1S (t : Ty) (l : List AV) (k : t.den → Prop) : Prop := decS t l fun x l => match l with
  | [] => k x
  | _ => False
theorem dec1S_elim {t : Ty} {l : List AV} {k : t.den → Prop} (h : dec1S t l k) : ∃ x, dec1 t l = some x ∧ k x := by
  obtain ⟨x, rest, hx, h⟩ := decS_elim t h
  split at h
  · exact ⟨x, by simp only [dec1, hx], h⟩
  · exact h.elim
def decNS (t : Ty) : Nat → List AV → (List t.den → Prop) → Prop
  | 0, l, k => match l with
    | [] => k []
    | _ => False
  | n + 1, l, k => decS t l fun x l => decNS t n l fun xs => k (x :: xs)
theorem decNS_elim {t : Ty} : {n : Nat} → {l : List AV} → {k : List t.den → Prop} → decNS t n l k → ∃ xs, decN t n l = some xs ∧ k xs
  | 0, l, k, h => by
    simp only [decNS] at h
    split at h
    · exact ⟨[], rfl, h⟩
    · exact h.elim
  | n + 1, l, k, h => by
    simp only [decNS] at h
    obtain ⟨x, rest, hx, h⟩ := decS_elim t h
    obtain ⟨xs, hxs, h⟩ := decNS_elim h
    exact ⟨_, by simp only [decN, hx, hxs, Option.map_some], h⟩
def decLS (t : Ty) (l : List AV) (k : List t.den → Prop) : Prop := match t.z with
  | 0 => False
  | z + 1 => decNS t (l.length / (z + 1)) l k
theorem decLS_elim {t : Ty} {l : List AV} {k : List t.den → Prop} (h : decLS t l k) : ∃ xs, decL t l = some xs ∧ k xs := by
  unfold decLS at h
  split at h
  · exact h.elim
  · rename_i z hz
    obtain ⟨xs, hxs, h⟩ := decNS_elim h
    exact ⟨xs, by simp only [decL, hz, if_neg (show ¬ (z + 1 = 0) by omega), hxs], h⟩

/-! Rows that are frozen, told. -/
def thawS (t t' : Ty) (l : List t'.den) (r : Ref) (n z : Nat) (k : AV → Prop) : Prop :=
  if t' = t then (match Nat.beq r.z t'.z && Nat.beq r.o 0 && Nat.beq z t'.z with
    | true => need true (r.e + n ≤ l.length) (k (.vec t' ((l.drop r.e).take n)))
    | false => False) else False
def freezeS (f : Nat → List AV → Heap → (List AV → Heap → Prop) → Prop) (t : Ty) (v : AV) (H : Heap) (k : AV → Heap → Prop) : Prop :=
  match v with
  | .slice _ (some r) n z => match H.get r.g with
    | some (.fro t' l _) => thawS t t' l r n z fun v => k v H
    | some (.vec t' l e false) => thawS t t' l r n z fun v => k v (H.set r.g (.fro t' l e))
    | some (.cells cs _ false) => f (cs.length / t.z) cs H fun cs' H' => decLS t cs' fun l => match H'.get r.g with
      | some (.cells cs2 e2 false) => match Nat.beq cs2.length cs'.length with
        | true => thawS t t l r n z fun v => k v (H'.set r.g (.fro t l e2))
        | false => False
      | _ => False
    | _ => False
  | v => k v H
def meltNS (f : List AV → Heap → (List AV → List AV → Heap → Prop) → Prop) : Nat → List AV → Heap → (List AV → Heap → Prop) → Prop
  | 0, l, H, k => match l with
    | [] => k [] H
    | _ :: _ => False
  | n + 1, l, H, k => f l H fun d l' H' => meltNS f n l' H' fun d' H'' => k (d ++ d') H''
def meltS : (t : Ty) → List AV → Heap → (List AV → List AV → Heap → Prop) → Prop
  | .sl t, l, H, k => (match l with
    | v :: l => freezeS (meltNS (meltS t)) t v H fun v H' => k [v] l H'
    | [] => False)
  | .pair a b, l, H, k => meltS a l H fun d l' H' => meltS b l' H' fun d' l'' H'' => k (d ++ d') l'' H''
  | .unit, l, H, k => k [] l H
  | .bool, l, H, k => (match l with
    | v :: l => k [v] l H
    | [] => False)
  | .int _, l, H, k => (match l with
    | v :: l => k [v] l H
    | [] => False)
  | .byte, l, H, k => (match l with
    | v :: l => k [v] l H
    | [] => False)
  | .str, l, H, k => (match l with
    | v :: l => k [v] l H
    | [] => False)
theorem thawS_elim {t t' : Ty} {l : List t'.den} {r : Ref} {n z : Nat} {k : AV → Prop} (h : thawS t t' l r n z k) : ∃ v, thawAt t t' l r n z = some v ∧ k v := by
  unfold thawS at h
  split at h
  · rename_i ht
    split at h
    · rename_i hb
      simp only [Bool.and_eq_true] at hb
      obtain ⟨h1, h2⟩ := need_elim h
      exact ⟨_, by unfold thawAt; rw [if_pos ⟨ht, Nat.eq_of_beq_eq_true hb.1.1, Nat.eq_of_beq_eq_true hb.1.2, Nat.eq_of_beq_eq_true hb.2, h1⟩], h2⟩
    · exact h.elim
  · exact h.elim
def FTells (fs : Nat → List AV → Heap → (List AV → Heap → Prop) → Prop) (f : Nat → List AV → Heap → Option (List AV × Heap)) : Prop := ∀ n l H k, fs n l H k → ∃ l' H', f n l H = some (l', H') ∧ k l' H'
def TTells (fs : List AV → Heap → (List AV → List AV → Heap → Prop) → Prop) (f : List AV → Heap → Option (List AV × List AV × Heap)) : Prop := ∀ l H k, fs l H k → ∃ d l' H', f l H = some (d, l', H') ∧ k d l' H'
theorem freezeS_elim {fs : Nat → List AV → Heap → (List AV → Heap → Prop) → Prop} {f : Nat → List AV → Heap → Option (List AV × Heap)} (hf : FTells fs f) {t : Ty} {v : AV} {H : Heap} {k : AV → Heap → Prop} (h : freezeS fs t v H k) : ∃ v' H', freezeV f t v H = some (v', H') ∧ k v' H' := by
  unfold freezeS at h
  split at h
  · split at h
    · rename_i hg
      obtain ⟨v, h1, h2⟩ := thawS_elim h
      exact ⟨_, _, by simp only [freezeV, hg, h1, Option.map_some], h2⟩
    · rename_i hg
      obtain ⟨v, h1, h2⟩ := thawS_elim h
      exact ⟨_, _, by simp only [freezeV, hg, h1, Option.map_some], h2⟩
    · rename_i hg
      obtain ⟨cs', H', h1, h2⟩ := hf _ _ _ _ h
      obtain ⟨l, hl, h3⟩ := decLS_elim h2
      split at h3
      · rename_i hg2
        split at h3
        · rename_i hb
          obtain ⟨v, h4, h5⟩ := thawS_elim h3
          exact ⟨_, _, by simp only [freezeV, hg, h1, hl, hg2, if_pos (Nat.eq_of_beq_eq_true hb), h4, Option.map_some], h5⟩
        · exact h3.elim
      · exact h3.elim
    · exact h.elim
  · rename_i hn
    refine ⟨v, H, ?_, h⟩
    unfold freezeV
    split
    · rename_i b r n z; exact absurd rfl (hn b r n z)
    · rfl
theorem meltNS_elim {fs : List AV → Heap → (List AV → List AV → Heap → Prop) → Prop} {f : List AV → Heap → Option (List AV × List AV × Heap)} (hf : TTells fs f) : FTells (meltNS fs) (meltN f) := by
  intro n
  induction n with
  | zero =>
    intro l H k h
    cases l with
    | nil => exact ⟨_, _, rfl, h⟩
    | cons => exact h.elim
  | succ n ih =>
    intro l H k h
    obtain ⟨d, l', H', h1, h2⟩ := hf _ _ _ h
    obtain ⟨d', H'', h3, h4⟩ := ih _ _ _ h2
    exact ⟨_, _, by simp only [meltN, h1, h3], h4⟩
theorem meltS_elim : (t : Ty) → TTells (meltS t) (meltT t)
  | .sl t, l, H, k, h => by
    cases l with
    | nil => exact h.elim
    | cons v l =>
      obtain ⟨v', H', h1, h2⟩ := freezeS_elim (meltNS_elim (meltS_elim t)) (show freezeS _ _ _ _ _ from h)
      exact ⟨_, _, _, by simp only [meltT, h1, Option.map_some], h2⟩
  | .pair a b, l, H, k, h => by
    obtain ⟨d, l', H', h1, h2⟩ := meltS_elim a _ _ _ h
    obtain ⟨d', l'', H'', h3, h4⟩ := meltS_elim b _ _ _ h2
    exact ⟨_, _, _, by simp only [meltT, h1, h3], h4⟩
  | .unit, l, H, k, h => ⟨_, _, _, by simp only [meltT], h⟩
  | .bool, l, H, k, h => by
    cases l with
    | nil => exact h.elim
    | cons v l => exact ⟨_, _, _, by simp only [meltT], h⟩
  | .int _, l, H, k, h => by
    cases l with
    | nil => exact h.elim
    | cons v l => exact ⟨_, _, _, by simp only [meltT], h⟩
  | .byte, l, H, k, h => by
    cases l with
    | nil => exact h.elim
    | cons v l => exact ⟨_, _, _, by simp only [meltT], h⟩
  | .str, l, H, k, h => by
    cases l with
    | nil => exact h.elim
    | cons v l => exact ⟨_, _, _, by simp only [meltT], h⟩
section ops
variable (P : Program)
def settleS (g : Nat) (e : TypeId) (H : Heap) (k : Heap → Prop) : Prop := match deepOf P e with
  | none => k H
  | some t => match H.get g with
    | some (.cells cs _ false) => meltNS (meltS t) (cs.length / t.z) cs H fun cs' H' => decLS t cs' fun l => match H'.get g with
      | some (.cells cs2 e2 false) => match Nat.beq cs2.length cs'.length with
        | true => k (H'.set g (.vec t l e2 false))
        | false => False
      | _ => False
    | _ => False
theorem settleS_elim {P : Program} {g : Nat} {e : TypeId} {H : Heap} {k : Heap → Prop} (h : settleS P g e H k) : ∃ H', settle P g e H = some H' ∧ k H' := by
  unfold settleS at h
  split at h
  · rename_i hd; exact ⟨H, by simp only [settle, hd], h⟩
  · rename_i hd
    split at h
    · rename_i hg
      obtain ⟨cs', H', h1, h2⟩ := meltNS_elim (meltS_elim _) _ _ _ _ h
      obtain ⟨l, hl, h3⟩ := decLS_elim h2
      split at h3
      · rename_i hg2
        split at h3
        · rename_i hb
          exact ⟨_, by simp only [settle, hd, hg, h1, hl, hg2, if_pos (Nat.eq_of_beq_eq_true hb)], h3⟩
        · exact h3.elim
      · exact h3.elim
    · exact h.elim

/-- The kind of a row of numbers. -/
def kindOfInts : List AV → Option IntKind
  | .int _ k _ :: _ => some k
  | _ => none

/-- A part of an element. -/
def loadT (u : TypeId) (t : Ty) (l : List t.den) (e o : Nat) (k : AV → Prop) : Prop :=
  match isAgg? P u, size? P u with
  | some true, some s => match Nat.ble (o + s) t.z with
    | true => need true (e < l.length) (k (.agg (((enc t (l.getD e t.dflt)).drop o).take s)))
    | false => False
  | some false, some _ => match Nat.blt o t.z with
    | true => must ((enc t (l.getD e t.dflt))[o]?) fun v => need true (e < l.length) (k v)
    | false => False
  | _, _ => False
def loadS (H : Heap) (t : TypeId) (u : Bool) (r : Ref) (k : AV → Prop) : Prop :=
  match H.get r.g with
  | some (.vec t' l _ _) => match Nat.beq r.z t'.z with
    | true => loadT P t t' l r.e r.o fun v => k (v.hot u)
    | false => False
  | some (.fro t' l _) => match Nat.beq r.z t'.z with
    | true => loadT P t t' l r.e r.o fun v => k (v.hot u)
    | false => False
  | some (.cells cs _ _) => match u with
    | false => must (loadV P H t r) fun v => k (v.hot false)
    | true => match isAgg? P t with
      | some false => match kindOfInts cs with
        | some kd => must (intsOf kd cs) fun l => need true (r.i < l.length) (k (.int true kd (l.getD r.i 0)))
        | none => must (strsOf cs) fun l => need true (r.i < l.length) (k (.str true (l.getD r.i [])))
      | _ => False
  | _ => False

def storeS (H : Heap) (t : TypeId) (r : Ref) (v : AV) (k : Heap → Prop) : Prop :=
  match H.get r.g with
  | some (.vec t' l e false) => match size? P t, Nat.beq r.z t'.z && Nat.ble (r.o + v.cells.length) t'.z && Nat.beq v.cells.length ((size? P t).getD 0) && v.cells.all AV.cell with
    | some _, true => need true (r.e < l.length) (dec1S t' (splice (enc t' (l.getD r.e t'.dflt)) r.o v.cells) fun x => k (H.set r.g (.vec t' (l.set r.e x) e false)))
    | _, _ => False
  | _ => must (storeV P H t r v) k

def binS (op : BinOp) (t : TypeId) (x y : AV) (k : AV → Prop) : Prop :=
  match op, x, y with
  | .quo, .int u kd a, .int u' kd' b => if kd = kd' then need u' (b ≠ 0) (k (.int (u || u') kd (kd.wrap (a.tdiv b)))) else False
  | .rem, .int u kd a, .int u' kd' b => if kd = kd' then need u' (b ≠ 0) (k (.int (u || u') kd (a.tmod b))) else False
  | .shl, .int u kd a, .int u' _ b => need u' (¬ b < 0) (k (.int (u || u') kd (kd.wrap (a * 2 ^ min b.toNat kd.bits))))
  | .shr, .int u kd a, .int u' _ b => need u' (¬ b < 0) (k (.int (u || u') kd (a.fdiv (2 ^ min b.toNat kd.bits))))
  | .add, .str u a, .str u' b => need (u || u') (((a.length + b.length : Nat) : Int) ≤ 9223372036854775807) (k (.str (u || u') (a ++ b)))
  | op, x, y => must (binA P op t x y) k

def srcS (H : Heap) (u : Bool) (r : Ref) (n s : Nat) (k : Lot → Prop) : Prop :=
  match H.get r.g with
  | some (.vec t l _ _) => match Nat.beq r.z t.z && Nat.beq r.o 0 && Nat.beq s t.z with
    | true => need true (r.e + n ≤ l.length) (k (.vec t ((l.drop r.e).take n)))
    | false => False
  | some (.fro t l _) => match Nat.beq r.z t.z && Nat.beq r.o 0 && Nat.beq s t.z with
    | true => need true (r.e + n ≤ l.length) (k (.vec t ((l.drop r.e).take n)))
    | false => False
  | some (.cells cs e ro) => match u with
    | true => False
    | false => must ((AObj.cells cs e ro).srcAt r n s) k
  | _ => False
def joinS (a b : Lot) (e : TypeId) (k : AObj → Prop) : Prop :=
  match a, b with
  | .vec t l, .vec t' l' => if h : t' = t then k (.vec t (l ++ (h ▸ l')) e false) else False
  | .vec t l, .cells cs => decLS t cs fun l' => k (.vec t (l ++ l') e false)
  | .cells cs, .vec t l' => decLS t cs fun l => k (.vec t (l ++ l') e false)
  | .cells cs, .cells cs' => k (.cells (cs ++ cs') e false)

def convS (src dst : TypeId) (x : AV) (H : Heap) (k : AV × Heap → Prop) : Prop :=
  match P.underlying src, P.underlying dst, x with
  | some .string, some (.slice e), .str t s =>
    if isU8 P e = true then need t (s.length ≤ 140737488355328) (joinS (.cells []) (strSrc t s) e fun o => k (.slice t (some ⟨H.n, 0, 1, 0⟩) s.length 1, H.push o)) else False
  | some (.slice e), some .string, .slice t (some r) n sz =>
    if isU8 P e = true ∧ sz = 1 then srcS H t r n 1 fun L => must (strOfSrc L) fun s => k (.str (t || s.1) s.2, H) else False
  | _, _, _ => must (convA P src dst x H) k

def sliceS (t : TypeId) (x : AV) (lo hi : Option AV) (k : AV → Prop) : Prop :=
  match P.underlying t, x with
  | some .string, .str u s => must (boundOf 0 lo) fun l => must (boundOf s.length hi) fun h =>
    need (u || tagOf lo || tagOf hi) (0 ≤ l ∧ l ≤ h ∧ h ≤ (s.length : Int)) (k (.str (u || tagOf lo || tagOf hi) ((s.take h.toNat).drop l.toNat)))
  | some (.slice e), .slice u (some r) n sz => must (boundOf 0 lo) fun l => must (boundOf n hi) fun h =>
    must (size? P e) fun s => if s = sz then
      need (u || tagOf lo || tagOf hi) (0 ≤ l ∧ l ≤ h ∧ h ≤ (n : Int)) (k (.slice (u || tagOf lo || tagOf hi) (some (r.el l.toNat sz)) (h - l).toNat sz)) else False
  | some (.slice e), .vec t' s => must (boundOf 0 lo) fun l => must (boundOf s.length hi) fun h =>
    if size? P e = some t'.z then need true (0 ≤ l ∧ l ≤ h ∧ h ≤ (s.length : Int)) (k (.vec t' ((s.take h.toNat).drop l.toNat))) else False
  | _, _ => must (sliceOp P t x lo hi) k

def indexAddrS (T : TypeId) (x ix : AV) (k : AV → Prop) : Prop :=
  match P.underlying T, x, ix with
  | some (.slice e), .vec t l, .int _ _ i => if size? P e = some t.z then need true (0 ≤ i ∧ i < (l.length : Int)) (k (.eptr t l i.toNat 0)) else False
  | some (.slice e), .slice t (some r) n _, .int u _ i => must (size? P e) fun s =>
    need (t || u) (0 ≤ i ∧ i < (n : Int)) (k (.ptr (t || u) (some (r.el i.toNat s))))
  | some (.array n e), .ptr t (some r), .int u _ i => must (size? P e) fun s =>
    need u (0 ≤ i ∧ i < (n : Int)) (k (.ptr (t || u) (some (r.el i.toNat s))))
  | _, _, _ => must (indexAddrA P T x ix) k
def indexS (t : TypeId) (x ix : AV) (k : AV → Prop) : Prop :=
  match P.underlying t, x, ix with
  | some .string, .str u s, .int u' _ i => need (u || u') (0 ≤ i ∧ i < (s.length : Int)) (k (.int (u || u') .u8 (s.getD i.toNat 0).toNat))
  | _, _, _ => must (indexA P t x ix) k

def appendRest (sz by_ : Nat) (e : TypeId) (s : AV) (H : Heap) (k : AV × Heap → Prop) (new : Lot) (n : Nat) (tn : Bool) : Prop :=
  match tn || !(Nat.beq n 0) with
  | false =>
    (match s with
      | .slice ts r m z => if (r.isSome → z = sz) then k (.slice ts r m z, H) else False
      | _ => False)
  | true =>
    (match s with
      | .slice _ none _ _ => if new.ok = true then need tn (n * by_ ≤ 140737488355328) (joinS (.cells []) new e fun o => k (.slice tn (some ⟨H.n, 0, sz, 0⟩) n sz, H.push o)) else False
      | .slice ts (some r) m z =>
        if z = sz ∧ new.ok = true then
          match H.row r.g with
          | some (_, _, false) => srcS H ts r m sz fun old =>
            need (ts || tn) ((m + n) * by_ ≤ 140737488355328) (joinS old new e fun o => k (.slice (ts || tn) (some ⟨H.n, 0, sz, 0⟩) (m + n) sz, (H.set r.g .dead).push o))
          | _ => False
        else False
      | _ => False)
def appendS (t : TypeId) (s x : AV) (H : Heap) (k : AV × Heap → Prop) : Prop :=
  must (sliceElem P t) fun e => must (size? P e) fun sz => must (bytes? P e) fun by_ => must (zero? P e) fun ze =>
  if sz = 0 ∨ by_ = 0 ∨ ze.cells.length ≠ sz then False else
  match x with
  | .slice _ none _ _ => appendRest sz by_ e s H k (.cells []) 0 false
  | .slice tx (some r) n z => if z = sz then srcS H tx r n sz fun L => appendRest sz by_ e s H k L n tx else False
  | .vec t' l => if sz = t'.z then appendRest sz by_ e s H k (.vec t' l) l.length true else False
  | .str tx l => if sz = 1 then appendRest sz by_ e s H k (strSrc tx l) l.length tx else False
  | _ => False

def callS (c : Call) (m : Tm) (H : Heap) (k : Got → Prop) : Prop :=
  match c.callee with
  | .builtin .append => match c.argTypes.toList, opnds m c.args.toList with
    | [t, u], some [s, x] => if srcKind P u x = true then appendS P t s x H fun r => k (.val r.1 r.2) else False
    | _, _ => False
  | _ => must (callA P c m H) k

def opS (o : Op) (m : Tm) (H : Heap) (k : Got → Prop) : Prop :=
  match o with
  | .pick c a b => match opnd m c with
    | some (.bool t x) => fork t x (must (opnd m a) fun v => k (.val v H)) (must (opnd m b) fun v => k (.val v H))
    | _ => False
  | .load t a => match opnd m a with
    | some (.ptr u (some r)) => loadS P H t u r fun v => k (.val v H)
    | some (.eptr t' l e o) => loadT P t t' l e o fun v => k (.val v H)
    | _ => False
  | .store t a x => match opnd m a, opnd m x with
    | some (.ptr _ (some r)), some v => storeS P H t r v fun H' => k (.val (.tup []) H')
    | _, _ => False
  | .binOp op t x y _ => match opnd m x, opnd m y with
    | some a, some b => binS P op t a b fun v => k (.val v H)
    | _, _ => False
  | .convert s d x => match opnd m x with
    | some a => convS P s d a H fun r => k (.val r.1 r.2)
    | none => False
  | .slice t x lo hi none => match opnd m x, optOpnd m lo, optOpnd m hi with
    | some a, some l, some h => sliceS P t a l h fun v => k (.val v H)
    | _, _, _ => False
  | .indexAddr t x i => match opnd m x, opnd m i with
    | some a, some b => indexAddrS P t a b fun v => k (.val v H)
    | _, _ => False
  | .index t x i => match opnd m x, opnd m i with
    | some a, some b => indexS P t a b fun v => k (.val v H)
    | _, _ => False
  | .call c => callS P c m H k
  | .buildSlice t n parts => match sliceElem P t, partsA m parts.toList with
    | some e, some ps => match size? P e, zero? P e with
      | some s, some z =>
        if s ≠ 0 ∧ n * s ≤ 16777216 ∧ z.cells.length = s then
          match fillA (fun i => some (i * s, s)) (zerosA z.cells n) ps with
          | some cs => if cs.all AV.cell = true ∧ cs.length = n * s then settleS P H.n e (H.push (.cells cs e false)) fun H' => k (.val (.slice false (some ⟨H.n, 0, s, 0⟩) n s) H') else False
          | none => False
        else False
      | _, _ => False
    | _, _ => False
  | o => must (opA P o m H) k
end ops

section sound
variable {P : Program} {H : Heap}

theorem getD_of {α : Type} {l : List α} {i : Nat} {d : α} (h : i < l.length) : l[i]? = some (l.getD i d) := by
  rw [List.getElem?_eq_getElem h, List.getD_eq_getElem?_getD, List.getElem?_eq_getElem h]; rfl

theorem intsOf_get {k : IntKind} : ∀ {cs : List AV} {l : List Int}, intsOf k cs = some l → cs.length = l.length ∧ ∀ (i : Nat) (n : Int), l[i]? = some n → ∃ t : Bool, cs[i]? = some (AV.int t k n)
  | [], l, h => by simp only [intsOf, Option.some.injEq] at h; subst h; exact ⟨rfl, fun i n h => by simp at h⟩
  | v :: cs, l, h => by
    cases v with
    | int t k' n =>
      simp only [intsOf] at h
      split at h
      · rename_i hk
        subst hk
        cases hl : intsOf k cs with
        | none => rw [hl] at h; cases h
        | some l' =>
          rw [hl] at h
          cases h
          obtain ⟨h1, h2⟩ := intsOf_get hl
          refine ⟨by simp [h1], fun i x hx => ?_⟩
          cases i with
          | zero => simp at hx; subst hx; exact ⟨t, by simp⟩
          | succ i => simp at hx; simpa using h2 i x hx
      · cases h
    | _ => simp only [intsOf] at h; cases h
theorem strsOf_get : ∀ {cs : List AV} {l : List (List UInt8)}, strsOf cs = some l → cs.length = l.length ∧ ∀ (i : Nat) (n : List UInt8), l[i]? = some n → ∃ t : Bool, cs[i]? = some (AV.str t n)
  | [], l, h => by simp only [strsOf, Option.some.injEq] at h; subst h; exact ⟨rfl, fun i n h => by simp at h⟩
  | v :: cs, l, h => by
    cases v with
    | str t n =>
      simp only [strsOf] at h
      cases hl : strsOf cs with
      | none => rw [hl] at h; cases h
      | some l' =>
        rw [hl] at h
        cases h
        obtain ⟨h1, h2⟩ := strsOf_get hl
        refine ⟨by simp [h1], fun i x hx => ?_⟩
        cases i with
        | zero => simp at hx; subst hx; exact ⟨t, by simp⟩
        | succ i => simp at hx; simpa using h2 i x hx
    | _ => simp only [strsOf] at h; cases h

theorem loadT_sound {u : TypeId} {t : Ty} {l : List t.den} {e o : Nat} {k : AV → Prop} (h : loadT P u t l e o k) : ∃ v, loadE P u t l e o = some v ∧ k v := by
  unfold loadT at h
  split at h
  · rename_i s hag hs
    split at h
    · rename_i hb
      obtain ⟨he, hk⟩ := need_elim h
      exact ⟨_, by simp only [loadE, hag, hs, if_pos (And.intro he (Nat.le_of_ble_eq_true hb))], hk⟩
    · exact h.elim
  · rename_i s hag hs
    split at h
    · rename_i hb
      obtain ⟨v, hv, h⟩ := must_elim h
      obtain ⟨he, hk⟩ := need_elim h
      exact ⟨v, by simp only [loadE, hag, hs, if_pos (And.intro he (Nat.blt_eq.mp hb)), hv], hk⟩
    · exact h.elim
  · exact h.elim
theorem loadE_row {t : TypeId} {r : Ref} {t' : Ty} {l : List t'.den} {e : TypeId} {ro : Bool} {v : AV} (hrow : H.row r.g = some (encL t' l, e, ro)) (hz : r.z = t'.z) (h : loadE P t t' l r.e r.o = some v) : loadV P H t r = some v := by
  have hi : r.i = r.e * t'.z + r.o := by unfold Ref.i; rw [hz]
  unfold loadV
  rw [hrow]
  unfold loadE at h
  split at h
  · rename_i s hag hs
    split at h
    · rename_i hc
      cases h
      have hle : r.i + s ≤ (encL t' l).length := by
        rw [encL_length, hi]
        have : (r.e + 1) * t'.z ≤ l.length * t'.z := Nat.mul_le_mul_right _ hc.1
        rw [Nat.add_mul] at this
        omega
      simp only [hag, hs, if_pos hle]
      rw [← encL_elem t' l r.e hc.1, List.drop_take, List.take_take, List.drop_drop, Nat.min_eq_left (by omega), hi]
    · cases h
  · rename_i s hag hs
    split at h
    · rename_i hc
      simp only [hag]
      rw [hi, encL_get t' l r.e r.o hc.1 hc.2]
      exact h
    · cases h
  · cases h
theorem loadS_sound {t : TypeId} {u : Bool} {r : Ref} {k : AV → Prop} (h : loadS P H t u r k) : ∃ v, loadV P H t r = some v ∧ k (v.hot u) := by
  unfold loadS at h
  have hrow : ∀ o, H.get r.g = some o → H.row r.g = o.row := fun o ho => by unfold Heap.row; rw [ho]; rfl
  split at h
  · rename_i t' l e ro hg
    split at h
    · rename_i hz
      obtain ⟨v, hv, hk⟩ := loadT_sound h
      exact ⟨v, loadE_row (hrow _ hg) (Nat.eq_of_beq_eq_true hz) hv, hk⟩
    · exact h.elim
  · rename_i t' l e hg
    split at h
    · rename_i hz
      obtain ⟨v, hv, hk⟩ := loadT_sound h
      exact ⟨v, loadE_row (hrow _ hg) (Nat.eq_of_beq_eq_true hz) hv, hk⟩
    · exact h.elim
  · rename_i cs e ro hg
    split at h
    · obtain ⟨v, hv, hk⟩ := must_elim h
      exact ⟨v, hv, hk⟩
    · split at h
      · rename_i ha
        split at h
        · rename_i kd hkd
          obtain ⟨l, hl, h⟩ := must_elim h
          obtain ⟨hi, hk⟩ := need_elim h
          obtain ⟨h1, h2⟩ := intsOf_get hl
          obtain ⟨tt, ht⟩ := h2 r.i _ (getD_of (d := 0) hi)
          refine ⟨.int tt kd (l.getD r.i 0), ?_, by simpa only [AV.hot, Bool.true_or] using hk⟩
          unfold loadV
          rw [hrow _ hg]
          simp only [AObj.row, ha, ht]
        · obtain ⟨l, hl, h⟩ := must_elim h
          obtain ⟨hi, hk⟩ := need_elim h
          obtain ⟨h1, h2⟩ := strsOf_get hl
          obtain ⟨tt, ht⟩ := h2 r.i _ (getD_of (d := []) hi)
          refine ⟨.str tt (l.getD r.i []), ?_, by simpa only [AV.hot, Bool.true_or] using hk⟩
          unfold loadV
          rw [hrow _ hg]
          simp only [AObj.row, ha, ht]
      · exact h.elim
  · exact h.elim

theorem storeS_sound {t : TypeId} {r : Ref} {v : AV} {k : Heap → Prop} (h : storeS P H t r v k) : ∃ H', storeV P H t r v = some H' ∧ k H' := by
  unfold storeS at h
  split at h
  · rename_i t' l e hg
    split at h
    · rename_i s hs hc
      obtain ⟨he, h⟩ := need_elim h
      obtain ⟨x, hx, hk⟩ := dec1S_elim h
      simp only [Bool.and_eq_true, hs, Option.getD_some] at hc
      obtain ⟨⟨⟨hz, ho⟩, hl⟩, hall⟩ := hc
      have hz := Nat.eq_of_beq_eq_true hz
      have ho := Nat.le_of_ble_eq_true ho
      have hl := Nat.eq_of_beq_eq_true hl
      refine ⟨_, ?_, hk⟩
      have hi : r.i = r.e * t'.z + r.o := by unfold Ref.i; rw [hz]
      have hle : r.i + s ≤ (encL t' l).length := by
        rw [encL_length, hi]
        have : (r.e + 1) * t'.z ≤ l.length * t'.z := Nat.mul_le_mul_right _ he
        rw [Nat.add_mul] at this
        omega
      unfold storeV
      rw [hg]
      simp only [AObj.row, hs]
      rw [if_pos ⟨hl, hle, hall⟩]
      simp only [AObj.put]
      rw [if_pos ⟨hz, he, ho⟩, hx]
    · exact h.elim
  · exact must_elim h

theorem binS_sound {op : BinOp} {t : TypeId} {x y : AV} {k : AV → Prop} (h : binS P op t x y k) : ∃ v, binA P op t x y = some v ∧ k v := by
  unfold binS at h
  split at h
  · split at h
    · rename_i hk
      obtain ⟨h1, h2⟩ := need_elim h
      exact ⟨_, by simp [binA, hk, arith, h1], h2⟩
    · exact h.elim
  · split at h
    · rename_i hk
      obtain ⟨h1, h2⟩ := need_elim h
      exact ⟨_, by simp [binA, hk, arith, h1], h2⟩
    · exact h.elim
  · obtain ⟨h1, h2⟩ := need_elim h
    exact ⟨_, by simp only [binA, shiftA, if_neg h1], h2⟩
  · obtain ⟨h1, h2⟩ := need_elim h
    exact ⟨_, by simp only [binA, shiftA, if_neg h1], h2⟩
  · obtain ⟨h1, h2⟩ := need_elim h
    exact ⟨_, by simp only [binA, strA, if_pos h1], h2⟩
  · exact must_elim h

theorem srcS_sound {u : Bool} {r : Ref} {n s : Nat} {k : Lot → Prop} (h : srcS H u r n s k) : ∃ L, sliceSrc H (some r) n s = some L ∧ k L := by
  unfold srcS at h
  simp only [sliceSrc]
  split at h
  · rename_i hg
    split at h
    · rename_i hc
      simp only [Bool.and_eq_true] at hc
      obtain ⟨⟨h1, h2⟩, h3⟩ := hc
      obtain ⟨h4, h5⟩ := need_elim h
      rw [hg]
      exact ⟨_, by simp only [AObj.srcAt, if_pos (And.intro (Nat.eq_of_beq_eq_true h1) (And.intro (Nat.eq_of_beq_eq_true h2) (And.intro (Nat.eq_of_beq_eq_true h3) h4)))], h5⟩
    · exact h.elim
  · rename_i hg
    split at h
    · rename_i hc
      simp only [Bool.and_eq_true] at hc
      obtain ⟨⟨h1, h2⟩, h3⟩ := hc
      obtain ⟨h4, h5⟩ := need_elim h
      rw [hg]
      exact ⟨_, by simp only [AObj.srcAt, if_pos (And.intro (Nat.eq_of_beq_eq_true h1) (And.intro (Nat.eq_of_beq_eq_true h2) (And.intro (Nat.eq_of_beq_eq_true h3) h4)))], h5⟩
    · exact h.elim
  · rename_i hg
    split at h
    · exact h.elim
    · rw [hg]; exact must_elim h
  · exact h.elim
theorem joinS_sound {a b : Lot} {e : TypeId} {k : AObj → Prop} (h : joinS a b e k) : k (joinRow a b e) := by
  unfold joinS at h
  unfold joinRow
  split at h
  · split at h
    · rename_i ht; simp only [dif_pos ht]; exact h
    · exact h.elim
  · obtain ⟨l', hl', hk⟩ := decLS_elim h
    simp only [hl']; exact hk
  · obtain ⟨l', hl', hk⟩ := decLS_elim h
    simp only [hl']; exact hk
  · exact h

theorem convS_sound {src dst : TypeId} {x : AV} {k : AV × Heap → Prop} (h : convS P src dst x H k) : ∃ r, convA P src dst x H = some r ∧ k r := by
  unfold convS at h
  split at h
  · rename_i e t s hs hd
    split at h
    · rename_i he
      obtain ⟨h1, h2⟩ := need_elim h
      exact ⟨_, by simp only [convA, hs, hd, he, h1, and_self, if_true], joinS_sound h2⟩
    · exact h.elim
  · rename_i e t r n sz hs hd
    split at h
    · rename_i hc
      obtain ⟨L, hL, h⟩ := srcS_sound h
      obtain ⟨s, hs', hk⟩ := must_elim h
      exact ⟨_, by simp only [convA, hs, hd, if_pos hc, hL, hs', Option.map_some], hk⟩
    · exact h.elim
  · exact must_elim h

theorem sliceS_sound {t : TypeId} {x : AV} {lo hi : Option AV} {k : AV → Prop} (h : sliceS P t x lo hi k) : ∃ v, sliceOp P t x lo hi = some v ∧ k v := by
  unfold sliceS at h
  split at h
  · rename_i u s hu
    obtain ⟨l, hl, h⟩ := must_elim h
    obtain ⟨b, hb, h⟩ := must_elim h
    obtain ⟨h1, h2⟩ := need_elim h
    exact ⟨_, by simp only [sliceOp, hu, hl, hb, if_pos h1], h2⟩
  · rename_i e u r n sz hu
    obtain ⟨l, hl, h⟩ := must_elim h
    obtain ⟨b, hb, h⟩ := must_elim h
    obtain ⟨s, hs, h⟩ := must_elim h
    split at h
    · rename_i hz
      obtain ⟨h1, h2⟩ := need_elim h
      exact ⟨_, by simp only [sliceOp, hu, hl, hb, if_pos h1, hs, if_pos hz], h2⟩
    · exact h.elim
  · rename_i e t' s hu
    obtain ⟨l, hl, h⟩ := must_elim h
    obtain ⟨b, hb, h⟩ := must_elim h
    split at h
    · rename_i hs
      obtain ⟨h1, h2⟩ := need_elim h
      exact ⟨_, by simp only [sliceOp, hu, hl, hb]; rw [if_pos ⟨h1.1, h1.2.1, h1.2.2, hs⟩], h2⟩
    · exact h.elim
  · exact must_elim h

theorem indexAddrS_sound {t : TypeId} {x ix : AV} {k : AV → Prop} (h : indexAddrS P t x ix k) : ∃ v, indexAddrA P t x ix = some v ∧ k v := by
  unfold indexAddrS at h
  split at h
  · rename_i hu
    split at h
    · rename_i hs
      obtain ⟨h1, h2⟩ := need_elim h
      exact ⟨_, by simp only [indexAddrA, hu]; rw [if_pos ⟨hs, h1.1, h1.2⟩], h2⟩
    · exact h.elim
  · rename_i hu
    obtain ⟨s, hs, h⟩ := must_elim h
    obtain ⟨h1, h2⟩ := need_elim h
    exact ⟨_, by simp only [indexAddrA, hu, hs, if_pos h1], h2⟩
  · rename_i hu
    obtain ⟨s, hs, h⟩ := must_elim h
    obtain ⟨h1, h2⟩ := need_elim h
    exact ⟨_, by simp only [indexAddrA, hu, hs, if_pos h1], h2⟩
  · exact must_elim h
theorem indexS_sound {t : TypeId} {x ix : AV} {k : AV → Prop} (h : indexS P t x ix k) : ∃ v, indexA P t x ix = some v ∧ k v := by
  unfold indexS at h
  split at h
  · rename_i hu
    obtain ⟨h1, h2⟩ := need_elim h
    refine ⟨_, ?_, h2⟩
    simp only [indexA, hu, if_pos h1.1]
    rw [getD_of (d := 0) (by omega)]
    rfl
  · exact must_elim h

theorem appendS_sound {t : TypeId} {s x : AV} {k : AV × Heap → Prop} (h : appendS P t s x H k) : ∃ r, appendA P t s x H = some r ∧ k r := by
  unfold appendS at h
  obtain ⟨e, he, h⟩ := must_elim h
  obtain ⟨sz, hsz, h⟩ := must_elim h
  obtain ⟨by_, hby, h⟩ := must_elim h
  obtain ⟨ze, hze, h⟩ := must_elim h
  split at h
  · exact h.elim
  · rename_i hpos
    have hrest : ∀ (new : Lot) (n : Nat) (tn : Bool), srcCells H sz x = some (new, n, tn) → appendRest sz by_ e s H k new n tn → ∃ r, appendA P t s x H = some r ∧ k r := by
      intro new n tn hsrc hf
      unfold appendRest at hf
      unfold appendA
      simp only [he, hsz, hby, hze, if_neg hpos, hsrc]
      split at hf
      · rename_i hn
        have hn' : n = 0 ∧ tn = false := by
          simp only [Bool.or_eq_false_iff, Bool.not_eq_false'] at hn
          exact ⟨Nat.eq_of_beq_eq_true hn.2, hn.1⟩
        simp only [if_pos hn']
        split at hf
        · split at hf
          · rename_i hc
            refine ⟨_, ?_, hf⟩
            simp only [if_pos hc]
          · exact hf.elim
        · exact hf.elim
      · rename_i hn
        have hn' : ¬ (n = 0 ∧ tn = false) := by
          rintro ⟨rfl, rfl⟩
          simp at hn
        simp only [if_neg hn']
        split at hf
        · split at hf
          · rename_i hok
            obtain ⟨h1, h2⟩ := need_elim hf
            refine ⟨_, ?_, joinS_sound h2⟩
            simp only [if_pos (And.intro h1 hok)]
          · exact hf.elim
        · split at hf
          · rename_i hc
            split at hf
            · rename_i hrow
              obtain ⟨old, hold, hf⟩ := srcS_sound hf
              obtain ⟨h1, h2⟩ := need_elim hf
              refine ⟨_, ?_, joinS_sound h2⟩
              simp only [if_pos hc.1, hrow, hold, if_pos (And.intro h1 hc.2)]
            · exact hf.elim
          · exact hf.elim
        · exact hf.elim
    split at h
    · exact hrest _ _ _ rfl h
    · rename_i tx r n z
      split at h
      · rename_i hz
        obtain ⟨L, hL, h⟩ := srcS_sound h
        exact hrest _ _ _ (by simp only [srcCells, if_pos hz, hL, Option.map_some]) h
      · exact h.elim
    · split at h
      · rename_i hz
        exact hrest _ _ _ (by simp only [srcCells, if_pos hz]) h
      · exact h.elim
    · split at h
      · rename_i hz
        exact hrest _ _ _ (by simp only [srcCells, if_pos hz]) h
      · exact h.elim
    · exact h.elim

theorem callS_sound {c : Call} {m : Tm} {k : Got → Prop} (h : callS P c m H k) : ∃ g, callA P c m H = some g ∧ k g := by
  unfold callS at h
  split at h
  · rename_i hc
    split at h
    · rename_i t u s x hts hargs
      split at h
      · rename_i hk
        obtain ⟨r, hr, hk'⟩ := appendS_sound h
        refine ⟨_, ?_, hk'⟩
        simp only [callA, hargs, hc, builtinA, hts, if_pos hk, hr, Option.map_some]
      · exact h.elim
    · exact h.elim
  · exact must_elim h

theorem opS_sound {o : Op} {m : Tm} {k : Got → Prop} (h : opS P o m H k) : ∃ g, opA P o m H = some g ∧ k g := by
  unfold opS at h
  split at h
  · rename_i c a b
    split at h
    · rename_i t x hc
      rcases fork_elim h with ⟨rfl, h'⟩ | ⟨rfl, h'⟩
      · obtain ⟨v, hv, hk⟩ := must_elim h'
        exact ⟨.val v H, by simp only [opA, hc, hv, Option.map_some], hk⟩
      · obtain ⟨v, hv, hk⟩ := must_elim h'
        exact ⟨.val v H, by simp only [opA, hc, hv, Option.map_some], hk⟩
    · exact h.elim
  · split at h
    · rename_i hx
      obtain ⟨v, hv, hk⟩ := loadS_sound h
      exact ⟨_, by simp only [opA, hx, hv, Option.map_some], hk⟩
    · rename_i hx
      obtain ⟨v, hv, hk⟩ := loadT_sound h
      exact ⟨_, by simp only [opA, hx, hv, Option.map_some], hk⟩
    · exact h.elim
  · split at h
    · rename_i hx hy
      obtain ⟨v, hv, hk⟩ := storeS_sound h
      exact ⟨_, by simp only [opA, hx, hy, hv, Option.map_some], hk⟩
    · exact h.elim
  · split at h
    · rename_i hx hy
      obtain ⟨v, hv, hk⟩ := binS_sound h
      exact ⟨_, by simp only [opA, hx, hy, hv, Option.map_some], hk⟩
    · exact h.elim
  · split at h
    · rename_i hx
      obtain ⟨v, hv, hk⟩ := convS_sound h
      exact ⟨_, by simp only [opA, hx, hv, Option.map_some], hk⟩
    · exact h.elim
  · split at h
    · rename_i hx hl hh
      obtain ⟨v, hv, hk⟩ := sliceS_sound h
      exact ⟨_, by simp only [opA, hx, hl, hh, hv, Option.map_some], hk⟩
    · exact h.elim
  · split at h
    · rename_i hx hy
      obtain ⟨v, hv, hk⟩ := indexAddrS_sound h
      exact ⟨_, by simp only [opA, hx, hy, hv, Option.map_some], hk⟩
    · exact h.elim
  · split at h
    · rename_i hx hy
      obtain ⟨v, hv, hk⟩ := indexS_sound h
      exact ⟨_, by simp only [opA, hx, hy, hv, Option.map_some], hk⟩
    · exact h.elim
  · exact callS_sound h
  · split at h
    · rename_i he hp
      split at h
      · rename_i hs hz
        split at h
        · rename_i hc
          split at h
          · rename_i hcs
            split at h
            · rename_i hall
              obtain ⟨H', h1, hk⟩ := settleS_elim h
              exact ⟨_, by simp only [opA, he, hp, hs, hz, if_pos hc, hcs, if_pos hall, h1, Option.map_some], hk⟩
            · exact h.elim
          · exact h.elim
        · exact h.elim
      · exact h.elim
    · exact h.elim
  · exact must_elim h
end sound
end Go.Vx
