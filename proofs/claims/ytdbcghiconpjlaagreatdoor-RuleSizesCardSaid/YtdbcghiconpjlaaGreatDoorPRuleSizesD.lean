/- Printed by a program of ours out of our texts: the evaluator, the printed functions, the plain laws. (A help: no statement of the seat is proved here.) -/
import Derived.Test.YtdbcghiconpjlaaGreatDoorPRuleSizesC
import Derived.Lib.Bytealg
import Derived.Lib.ItoaNum
import Derived.Lib.Join
import Derived.Lib.FieldsP
section
set_option linter.unusedVariables false
set_option linter.unusedSimpArgs false
namespace Go.Vx
theorem w64 {n : Int} (h0 : -9223372036854775808 ≤ n) (h1 : n < 9223372036854775808) : IntKind.i64.wrap n = n := by
 simp only [IntKind.wrap, IntKind.signed, IntKind.bits, if_true]
 simp
 omega
theorem wS {k : Nat} (h : k < 4611686018427387904) : IntKind.i64.wrap ((k : Int) + 1) = ((k + 1 : Nat) : Int) := by rw [w64 (by omega) (by omega)]; omega
theorem byte_is (c d : UInt8) : ((c.toNat : Int) == (d.toNat : Int)) = (c == d) := by
 by_cases h : c = d
 ·subst h; simp
 ·have : ¬ c.toNat = d.toNat := fun e => h (UInt8.toNat_inj.1 e)
  have h1 : (c == d) = false := by simpa using h
  rw [h1]
  exact beq_false_of_ne (by omega)
theorem byte_eqI (c : UInt8) (m : Int) (h0 : 0 ≤ m) (h1 : m < 256) : ((c.toNat : Int) == m) = (c == UInt8.ofNat m.toNat) := by
 have : m = ((UInt8.ofNat m.toNat).toNat : Int) := by simp; omega
 rw [← byte_is]
 rw [← this]
theorem in_rng {k n : Nat} (h : k < n) : (0 : Int) ≤ (k : Int) ∧ (k : Int) < (n : Int) := by omega
theorem Tr.val_chk {α : Type} {p : Prop} [Decidable p] {a : Tr α} (h : p) : (Tr.chk p a).val = a.val := if_pos h
theorem Tr.val_call {α β : Type} {o : Option β} {k : β → Tr α} {y : β} (h : o = some y) : (Tr.call o k).val = (k y).val := by subst h; rfl
def foldE {α A ρ : Type} (step : A → α → A ⊕ ρ) (fin : A → ρ) : A → List α → ρ
 | a, [] => fin a
 | a, c :: l => match step a c with
  | .inl a' => foldE step fin a' l
  | .inr r => r
theorem iter_list {α A σ ρ : Type} {body : σ → Tr (σ ⊕ ρ)} (s : List α) (st : Nat → A → σ) (inv : Nat → A → Prop) (step : A → α → A ⊕ ρ) (fin : A → ρ)
  (hs : ∀ (k : Nat) (a : A) (c : α), inv k a → (hk : k < s.length) → s[k]'hk = c → (body (st k a)).val = some (match step a c with
   | .inl a' => .inl (st (k + 1) a')
   | .inr r => .inr r) ∧ ∀ a', step a c = .inl a' → inv (k + 1) a')
  (he : ∀ a, inv s.length a → (body (st s.length a)).val = some (.inr (fin a))) :
  ∀ (n k : Nat) (a : A), inv k a → k ≤ s.length → s.length - k < n → iter body n (st k a) = some (foldE step fin a (s.drop k)) := by
 intro n
 induction n with
 | zero => intro k a _ _ h; omega
 | succ n ih =>
  intro k a hi hk hn
  rw [iter]
  by_cases hl : k < s.length
  ·obtain ⟨h1, h2⟩ := hs k a _ hi hl rfl
   rw [h1, List.drop_eq_getElem_cons hl, foldE]
   cases e : step a s[k] with
   | inr r => rfl
   | inl a' => exact ih (k + 1) a' (h2 a' e) (by omega) (by omega)
  ·have hkl : k = s.length := by omega
   subst hkl
   rw [he a hi, List.drop_length, foldE]
theorem Loop_list {α A σ ρ : Type} {body : σ → Tr (σ ⊕ ρ)} (s : List α) (st : Nat → A → σ) (inv : Nat → A → Prop) (step : A → α → A ⊕ ρ) (fin : A → ρ)
  (hs : ∀ (k : Nat) (a : A) (c : α), inv k a → (hk : k < s.length) → s[k]'hk = c → (body (st k a)).val = some (match step a c with
   | .inl a' => .inl (st (k + 1) a')
   | .inr r => .inr r) ∧ ∀ a', step a c = .inl a' → inv (k + 1) a')
  (he : ∀ a, inv s.length a → (body (st s.length a)).val = some (.inr (fin a))) (hn : s.length < 1125899906842624) {a : A} (hi : inv 0 a) {s0 : σ} (h0 : s0 = st 0 a) : Loop body s0 = some (foldE step fin a s) := by
 subst h0
 have := iter_list s st inv step fin hs he rounds 0 a hi (Nat.zero_le _) (by unfold rounds; omega)
 rw [List.drop_zero] at this
 exact this
theorem getD_at {α : Type} {s : List α} {k : Nat} {c : α} {d : α} (hk : k < s.length) (hc : s[k]'hk = c) : s.getD (k : Int).toNat d = c := by
 rw [Int.toNat_natCast, List.getD_eq_getElem?_getD, List.getElem?_eq_getElem hk, hc]; rfl
end Go.Vx
end
section
set_option linter.unusedVariables false
set_option linter.unusedSimpArgs false
set_option maxRecDepth 100000
namespace Go.Vx
namespace Pl
theorem all256 {p : UInt8 → Bool} (h : ((List.range 256).all fun n => p (UInt8.ofNat n)) = true) (c : UInt8) : p c = true := by
 have := List.all_eq_true.1 h c.toNat (List.mem_range.2 (UInt8.toNat_lt c))
 simpa using this
theorem byte_fn {α : Type} [DecidableEq α] {f : Int → Option α} {g : UInt8 → α} (h : ((List.range 256).all fun n => decide (f (((UInt8.ofNat n).toNat : Nat) : Int) = some (g (UInt8.ofNat n)))) = true) (c : UInt8) : f (c.toNat : Int) = some (g c) :=
 of_decide_eq_true (all256 (p := fun c => decide (f (c.toNat : Int) = some (g c))) h c)
def isLetter (c : UInt8) : Bool := (decide (97 ≤ c) && decide (c ≤ 122)) || (decide (65 ≤ c) && decide (c ≤ 90))
def isDigit (c : UInt8) : Bool := decide (48 ≤ c) && decide (c ≤ 57)
def isTok (c : UInt8) : Bool := isLetter c || isDigit c || [33, 35, 36, 37, 38, 39, 42, 43, 45, 46, 94, 95, 96, 124, 126].contains c
def isVis (c : UInt8) : Bool := decide (33 ≤ c) && decide (c ≤ 126)
def isBlank (c : UInt8) : Bool := c == 32 || c == 9
def isText (c : UInt8) : Bool := isVis c || isBlank c || decide (128 ≤ c)
def isHex (c : UInt8) : Bool := isDigit c || (decide (97 ≤ c) && decide (c ≤ 102)) || (decide (65 ≤ c) && decide (c ≤ 70))
def hexv (c : UInt8) : Nat := if isDigit c then c.toNat - 48 else if decide (97 ≤ c) && decide (c ≤ 102) then c.toNat - 87 else if decide (65 ≤ c) && decide (c ≤ 70) then c.toNat - 55 else 0
def lowerC (c : UInt8) : UInt8 := if decide (65 ≤ c) && decide (c ≤ 90) then c + 32 else c
def isKind (k : Int) (c : UInt8) : Bool := if k = 1 then isTok c else if k = 2 then isVis c else if k = 3 then isBlank c else if k = 4 then isDigit c else if k = 5 then isHex c else if k = 6 then isText c else false
def scan {α ρ : Type} (step : Nat → α → Option ρ) (fin : ρ) : Nat → List α → ρ
 | _, [] => fin
 | k, c :: l => match step k c with
  | none => scan step fin (k + 1) l
  | some r => r
theorem scan_foldE {α ρ : Type} (step : Nat → α → Option ρ) (fin : ρ) : ∀ (l : List α) (k : Nat), foldE (fun (a : Nat) c => match step a c with
  | none => .inl (a + 1)
  | some r => .inr r) (fun _ => fin) k l = scan step fin k l
 | [], _ => rfl
 | c :: l, k => by
  rw [foldE, scan]
  cases step k c with
  | none => exact scan_foldE step fin l (k + 1)
  | some r => rfl
theorem Loop_scan {α ρ : Type} {body : Int → Tr (Int ⊕ ρ)} (s : List α) (step : Nat → α → Option ρ) (fin : ρ)
  (hs : ∀ (k : Nat) (c : α), (hk : k < s.length) → s[k]'hk = c → (body (k : Int)).val = some (match step k c with
   | none => .inl ((k + 1 : Nat) : Int)
   | some r => .inr r)) (he : (body (s.length : Int)).val = some (.inr fin)) (hn : s.length < 1125899906842624) : Loop body 0 = some (scan step fin 0 s) := by
 rw [← scan_foldE]
 refine Loop_list s (fun k _ => (k : Int)) (fun k a => a = k) (fun a c => match step a c with
  | none => .inl (a + 1)
  | some r => .inr r) (fun _ => fin) (fun k a c hi hk hc => ?_) (fun a _ => he) hn rfl rfl
 subst hi
 rw [hs a c hk hc]
 cases step a c with
 | none => exact ⟨rfl, fun a' h => by cases h; rfl⟩
 | some r => exact ⟨rfl, fun a' h => by cases h⟩
theorem scan_all {α : Type} (p : α → Bool) : ∀ (l : List α) (k : Nat), scan (fun _ c => if p c = true then none else some (Sum.inr false : Unit ⊕ Bool)) (.inl ()) k l = if l.all p = true then .inl () else .inr false
 | [], _ => rfl
 | c :: l, k => by
  rw [scan]
  by_cases h : p c = true
  ·simp only [h, if_true, scan_all p l (k + 1), List.all_cons, Bool.true_and]
  ·simp only [h, List.all_cons]; rfl
theorem bif_ite {α : Type} (c : Bool) (a b : α) : (bif c then a else b) = if c = true then a else b := by cases c <;> rfl
theorem lt_nat {k n : Nat} : decide ((k : Int) < (n : Int)) = decide (k < n) := by simp
end Pl
end Go.Vx
end
section
set_option linter.unusedVariables false
set_option linter.unusedSimpArgs false
set_option maxRecDepth 100000
namespace Go.Vx
namespace Pl
open Go
theorem Loop_front {α : Type} {t : List α → Tr (List α ⊕ List α)} {p : α → Bool} {s : List α} (h0 : (t []).val = some (.inr [])) (hs : ∀ c l, l.length < s.length → (t (c :: l)).val = some (if p c = true then .inl l else .inr (c :: l))) (hn : s.length < 1125899906842624) : Loop t s = some (s.dropWhile p) := by
 have : ∀ (n : Nat) (z : List α), z.length < n → z.length ≤ s.length → iter t n z = some (z.dropWhile p) := by
  intro n
  induction n with
  | zero => intro z h; omega
  | succ n ih =>
   intro z h hz
   cases z with
   | nil => rw [iter, h0]; rfl
   | cons c l =>
    rw [iter, hs c l (by simp at hz; omega)]
    by_cases hc : p c = true
    ·simp only [hc, if_true, List.dropWhile_cons_of_pos]
     exact ih l (by simp at h; omega) (by simp at hz; omega)
    ·simp [hc, List.dropWhile_cons_of_neg]
 exact this rounds s (by unfold rounds; omega) (Nat.le_refl _)
def dropEnd {α : Type} (p : α → Bool) (l : List α) : List α := (l.reverse.dropWhile p).reverse
theorem dropEnd_snoc {α : Type} {p : α → Bool} (l : List α) (c : α) : dropEnd p (l ++ [c]) = if p c = true then dropEnd p l else l ++ [c] := by
 unfold dropEnd
 by_cases h : p c = true
 ·simp [h]
 ·simp [h]
theorem dropEnd_length {α : Type} {p : α → Bool} (l : List α) : (dropEnd p l).length ≤ l.length := by
 unfold dropEnd
 have := (List.dropWhile_sublist p (l := l.reverse)).length_le
 simpa using this
theorem Loop_end {α : Type} {t : List α → Tr (List α ⊕ List α)} {p : α → Bool} {s : List α} (h0 : (t []).val = some (.inr [])) (hs : ∀ l c, l.length < s.length → (t (l ++ [c])).val = some (if p c = true then .inl l else .inr (l ++ [c]))) (hn : s.length < 1125899906842624) : Loop t s = some (dropEnd p s) := by
 have : ∀ (n : Nat) (z : List α), z.length < n → z.length ≤ s.length → iter t n z = some (dropEnd p z) := by
  intro n
  induction n with
  | zero => intro z h; omega
  | succ n ih =>
   intro z h hz
   rcases List.eq_nil_or_concat z with rfl | ⟨l, c, rfl⟩
   ·rw [iter, h0]; rfl
   ·simp only [List.concat_eq_append, List.length_append, List.length_cons, List.length_nil] at h hz ⊢
    rw [iter, hs l c (by omega), dropEnd_snoc]
    by_cases hc : p c = true
    ·simp only [hc, if_true]
     exact ih l (by omega) (by omega)
    ·simp [hc]
 exact this rounds s (by unfold rounds; omega) (Nat.le_refl _)
def addTo {ρ : Type} (i : Nat) : Nat ⊕ ρ → Int ⊕ ρ
 | .inl j => .inl ((i + j : Nat) : Int)
 | .inr r => .inr r
def goOn {α ρ : Type} (g : List α → ρ) (l : List α) : Nat ⊕ ρ → ρ
 | .inl j => g (l.drop j)
 | .inr r => r
theorem Loop_drop {α ρ : Type} {body : Int → Tr (Int ⊕ ρ)} (s : List α) (step : List α → Nat ⊕ ρ) (g : List α → ρ) (hg : ∀ l, g l = goOn g l (step l)) (hj : ∀ l j, step l = .inl j → 0 < j ∧ j ≤ l.length)
  (hs : ∀ i, i ≤ s.length → (body (i : Int)).val = some (addTo i (step (s.drop i)))) (hn : s.length < 1125899906842624) : Loop body 0 = some (g s) := by
 have : ∀ (n i : Nat), i ≤ s.length → s.length - i < n → iter body n (i : Int) = some (g (s.drop i)) := by
  intro n
  induction n with
  | zero => intro i _ h; omega
  | succ n ih =>
   intro i hi h
   rw [iter, hs i hi, hg (s.drop i)]
   cases e : step (s.drop i) with
   | inr r => rfl
   | inl j =>
    obtain ⟨h1, h2⟩ := hj _ _ e
    rw [List.length_drop] at h2
    simp only [addTo, goOn]
    rw [ih (i + j) (by omega) (by omega), List.drop_drop]
 exact this rounds 0 (Nat.zero_le _) (by unfold rounds; omega)
def lower (s : List UInt8) : List UInt8 := s.map lowerC
def same (a b : List UInt8) : Bool := lower a == lower b
def trimP (p : UInt8 → Bool) (s : List UInt8) : List UInt8 := dropEnd p (s.dropWhile p)
def trim (s : List UInt8) : List UInt8 := trimP isBlank s
theorem trimP_length (p : UInt8 → Bool) (s : List UInt8) : (trimP p s).length ≤ s.length := by
 unfold trimP
 have h1 := dropEnd_length (p := p) (s.dropWhile p)
 have h2 := (List.dropWhile_sublist p (l := s)).length_le
 omega
def before (c : UInt8) (s : List UInt8) : List UInt8 := s.takeWhile (· != c)
def after (c : UInt8) (s : List UInt8) : List UInt8 := (s.dropWhile (· != c)).drop 1
def cutC (c : UInt8) (s : List UInt8) : List UInt8 × List UInt8 × Bool := if s.contains c = true then (before c s, after c s, true) else (s, [], false)
def signsGo (others : List UInt8) (pct : Bool) : List UInt8 → Bool
 | [] => true
 | c :: l => if (isDigit c || isLetter c || others.contains c) = true then signsGo others pct l else if (pct && c == 37) = true then match l with
  | a :: b :: l' => isHex a && isHex b && signsGo others pct l'
  | _ => false
 else false
theorem indexByte_not {c : UInt8} : ∀ {s : List UInt8}, s.contains c = false → Lib.indexByte s c = -1
 | [], _ => rfl
 | x :: l, h => by
  simp only [List.contains_cons, Bool.or_eq_false_iff] at h
  have hx : (x == c) = false := by
   have := h.1
   simp only [beq_eq_false_iff_ne] at this ⊢
   exact fun e => this e.symm
  unfold Lib.indexByte
  rw [indexByte_not h.2, hx]
  simp
theorem indexByte_is {c : UInt8} : ∀ {s : List UInt8}, s.contains c = true → Lib.indexByte s c = ((before c s).length : Int)
 | [], h => by simp at h
 | x :: l, h => by
  unfold Lib.indexByte before
  by_cases hx : x = c
  ·subst hx; simp
  ·have h1 : (x == c) = false := by simpa using hx
   have h2 : l.contains c = true := by
    simp only [List.contains_cons, Bool.or_eq_true, beq_iff_eq] at h
    rcases h with h | h
    ·exact absurd h.symm hx
    ·exact h
   have ih := indexByte_is h2
   have h3 : (x != c) = true := by simp [bne, h1]
   rw [h1]
   simp only [List.takeWhile_cons, h3, if_true, List.length_cons]
   rw [ih]
   have h4 : (((before c l).length : Int) == -1) = false := by
    rw [beq_eq_false_iff_ne]; omega
   simp only [h4]
   simp [before]
theorem before_after {c : UInt8} : ∀ {s : List UInt8}, s.contains c = true → s = before c s ++ c :: after c s
 | [], h => by simp at h
 | x :: l, h => by
  unfold before after
  by_cases hx : x = c
  ·subst hx; simp
  ·have h1 : (x != c) = true := by simpa using hx
   have h2 : l.contains c = true := by
    simp only [List.contains_cons, Bool.or_eq_true, beq_iff_eq] at h
    rcases h with h | h
    ·exact absurd h.symm hx
    ·exact h
   have ih := before_after h2
   simp only [List.takeWhile_cons, List.dropWhile_cons, h1, if_true, List.cons_append]
   congr 1
theorem take_before {c : UInt8} {s : List UInt8} (h : s.contains c = true) : s.take (before c s).length = before c s := by
 refine (congrArg (List.take (before c s).length) (before_after h)).trans ?_
 simp
theorem drop_after {c : UInt8} {s : List UInt8} (h : s.contains c = true) : s.drop ((before c s).length + 1) = after c s := by
 refine (congrArg (List.drop ((before c s).length + 1)) (before_after h)).trans ?_
 simp
theorem before_len {c : UInt8} {s : List UInt8} (h : s.contains c = true) : (before c s).length + 1 + (after c s).length = s.length := by
 have := congrArg List.length (before_after h)
 simp at this
 omega
end Pl
end Go.Vx
end
section
set_option linter.unusedVariables false
set_option linter.unusedSimpArgs false
set_option maxRecDepth 100000
namespace Go.Vx
namespace Pl
open Go Go.Proofs
theorem octet_Digit_f (c : UInt8) : octet_Digit.f (c.toNat : Int) = some (isDigit c) := byte_fn (f := octet_Digit.f) (g := fun c => (isDigit c)) (by decide +kernel) c
theorem octet_Token_f (c : UInt8) : octet_Token.f (c.toNat : Int) = some (isTok c) := byte_fn (f := octet_Token.f) (g := fun c => (isTok c)) (by decide +kernel) c
theorem octet_Visible_f (c : UInt8) : octet_Visible.f (c.toNat : Int) = some (isVis c) := byte_fn (f := octet_Visible.f) (g := fun c => (isVis c)) (by decide +kernel) c
theorem octet_Blank_f (c : UInt8) : octet_Blank.f (c.toNat : Int) = some (isBlank c) := byte_fn (f := octet_Blank.f) (g := fun c => (isBlank c)) (by decide +kernel) c
theorem octet_Text_f (c : UInt8) : octet_Text.f (c.toNat : Int) = some (isText c) := byte_fn (f := octet_Text.f) (g := fun c => (isText c)) (by decide +kernel) c
theorem octet_Hex_f (c : UInt8) : octet_Hex.f (c.toNat : Int) = some ((hexv c : Int), isHex c) := byte_fn (f := octet_Hex.f) (g := fun c => ((hexv c : Int), isHex c)) (by decide +kernel) c
theorem octet_of_f (c : UInt8) (k : Int) : octet_of.f (c.toNat : Int) k = some (isKind k c) := by
 unfold octet_of.f octet_of.t isKind
 rw [octet_Token_f, octet_Visible_f, octet_Blank_f, octet_Digit_f, octet_Hex_f, octet_Text_f]
 simp only [Tr.val, bif_ite, beq_iff_eq]
 split <;> (try rfl) <;> split <;> (try rfl) <;> split <;> (try rfl) <;> split <;> (try rfl) <;> split <;> (try rfl) <;> split <;> rfl
theorem octet_All_L6 {kinds : List Int} {s : List UInt8} {i : Nat} {c : UInt8} (hi : i < s.length) (hc : s[i]'hi = c) (hn : kinds.length < 1125899906842624) : octet_All.L6.f kinds s (i : Int) false (kinds.length : Int) 0 = some (kinds.any fun k => isKind k c) := by
 unfold octet_All.L6.f
 refine (Loop_list (A := Bool) (ρ := Bool) (a := false) kinds (fun k a => (a, (k : Int))) (fun _ _ => True) (fun a k => .inl (a || isKind k c)) id ?_ ?_ hn trivial rfl).trans ?_
 ·intro k a kd _ hk hkc
  refine ⟨?_, fun _ _ => trivial⟩
  have hw := wS (k := k) (by omega)
  subst hkc hc
  cases a <;> simp [octet_All.L6.t, Tr.val, octet_of_f, in_rng hk, hw, hk, in_rng hi, hi]
 ·intro a _
  simp [octet_All.L6.t, Tr.val]
 ·congr 1
  have : ∀ (l : List Int) (a : Bool), foldE (fun a k => (Sum.inl (a || isKind k c) : Bool ⊕ Bool)) id a l = (a || l.any fun k => isKind k c) := by
   intro l
   induction l with
   | nil => intro a; simp [foldE]
   | cons k l ih => intro a; simp [foldE, ih, Bool.or_assoc]
  simpa using this kinds false
theorem octet_All_f {kinds : List Int} {s : List UInt8} (hk : kinds.length < 1125899906842624) (hn : s.length < 1125899906842624) : octet_All.f kinds s = some (s.all fun c => kinds.any fun k => isKind k c) := by
 have hL : octet_All.L2.f kinds s (s.length : Int) 0 = some (if (s.all fun c => kinds.any fun k => isKind k c) = true then .inl () else .inr false) := by
  unfold octet_All.L2.f
  refine (Loop_scan s (fun _ c => if (kinds.any fun k => isKind k c) = true then none else some (Sum.inr false : Unit ⊕ Bool)) (.inl ()) (fun k c hl hc => ?_) ?_ hn).trans (by rw [scan_all])
  ·have hw := wS (k := k) (by omega)
   by_cases h : (kinds.any fun k => isKind k c) = true
   ·simp [octet_All.L2.t, Tr.val, octet_All_L6 hl hc hk, h, hw, hl]
   ·have h' : (kinds.any fun k => isKind k c) = false := by simpa using h
    simp [octet_All.L2.t, Tr.val, octet_All_L6 hl hc hk, h', hw, hl]
  ·simp [octet_All.L2.t, Tr.val]
 unfold octet_All.f octet_All.t
 rw [hL]
 cases (s.all fun c => kinds.any fun k => isKind k c) <;> simp [Tr.val]
theorem kind1 (s : List UInt8) (k : Int) : (s.all fun c => [k].any fun k => isKind k c) = s.all (isKind k) := by
 congr 1; funext c; simp
theorem octet_All1 {k : Int} {s : List UInt8} (hn : s.length < 1125899906842624) : octet_All.f [k] s = some (s.all (isKind k)) := by
 rw [octet_All_f (by simp) hn, kind1]
theorem trim_front {s : List UInt8} (hn : s.length < 1125899906842624) : text_trimmed_f_octet_Blank.L1.f s = some (s.dropWhile isBlank) := by
 unfold text_trimmed_f_octet_Blank.L1.f
 refine Loop_front (p := isBlank) ?_ ?_ hn
 ·simp [text_trimmed_f_octet_Blank.L1.t, Tr.val]
 ·intro c l _
  cases h : isBlank c <;> simp [text_trimmed_f_octet_Blank.L1.t, Tr.val, octet_Blank_f, h] <;> omega
theorem snoc_wrap {l : List UInt8} {c : UInt8} (hn : l.length < 1125899906842624) : IntKind.i64.wrap (((l ++ [c]).length : Int) - 1) = (l.length : Int) := by
 rw [List.length_append]
 simp only [List.length_cons, List.length_nil]
 rw [w64 (by omega) (by omega)]
 omega
theorem trim_end {s : List UInt8} (hn : s.length < 1125899906842624) : text_trimmed_f_octet_Blank.L3.f s = some (dropEnd isBlank s) := by
 unfold text_trimmed_f_octet_Blank.L3.f
 refine Loop_end (p := isBlank) ?_ ?_ hn
 ·simp [text_trimmed_f_octet_Blank.L3.t, Tr.val]
 ·intro l c hl
  have h1 := snoc_wrap (l := l) (c := c) (by omega)
  have h2 : ((l ++ [c]) == []) = false := by simp
  have h3 : (l ++ [c]).getD l.length 0 = c := by simp
  unfold text_trimmed_f_octet_Blank.L3.t
  rw [h1]
  simp only [Tr.val, h2, Int.toNat_natCast, h3, octet_Blank_f]
  cases h : isBlank c <;> simp <;> omega
theorem text_Trim_f {s : List UInt8} (hn : s.length < 1125899906842624) : text_Trim.f s = some (trim s) := by
 unfold text_Trim.f text_Trim.t text_trimmed_f_octet_Blank.f text_trimmed_f_octet_Blank.t trim trimP
 rw [trim_front hn]
 have := (List.dropWhile_sublist isBlank (l := s)).length_le
 simp only [Tr.val, trim_end (s := List.dropWhile isBlank s) (by omega)]
theorem lower_set {s : List UInt8} {k : Nat} (hk : k < s.length) (b : UInt8) : ((s.take k).map lowerC ++ s.drop k).set k b = (s.take k).map lowerC ++ b :: s.drop (k + 1) := by
 rw [List.set_append_right _ _ (by simp; omega)]
 have e : k - ((s.take k).map lowerC).length = 0 := by simp; omega
 rw [e, List.drop_eq_getElem_cons hk]
 rfl
theorem lower_next {s : List UInt8} {k : Nat} (hk : k < s.length) : (s.take (k + 1)).map lowerC ++ s.drop (k + 1) = (s.take k).map lowerC ++ lowerC s[k] :: s.drop (k + 1) := by
 rw [List.take_add_one, List.getElem?_eq_getElem hk, List.map_append, List.append_assoc]
 rfl
theorem lower_at {s : List UInt8} {k : Nat} (hk : k < s.length) : ((s.take k).map lowerC ++ s.drop k).getD k 0 = s[k] := by
 rw [List.getD_eq_getElem?_getD, List.getElem?_append_right (by simp; omega)]
 simp [Nat.min_eq_left (Nat.le_of_lt hk), hk]
theorem lower_len {s : List UInt8} {k : Nat} (hk : k ≤ s.length) : ((s.take k).map lowerC ++ s.drop k).length = s.length := by
 simp; omega
theorem lower_byte (c : UInt8) (h1 : (c.toNat : Int) ≥ 65) (h2 : (c.toNat : Int) ≤ 90) : IntKind.u8.wrap (IntKind.u8.wrap ((c.toNat : Int) + 97) - 65) = ((c.toNat + 32 : Nat) : Int) ∧ UInt8.ofNat (c.toNat + 32) = lowerC c := by
 have := all256 (p := fun c => !(decide ((c.toNat : Int) ≥ 65) && decide ((c.toNat : Int) ≤ 90)) || (decide (IntKind.u8.wrap (IntKind.u8.wrap ((c.toNat : Int) + 97) - 65) = ((c.toNat + 32 : Nat) : Int)) && (UInt8.ofNat (c.toNat + 32) == lowerC c))) (by decide +kernel) c
 simpa [h1, h2] using this
theorem lower_not (c : UInt8) (h : ¬ ((c.toNat : Int) ≥ 65 ∧ (c.toNat : Int) ≤ 90)) : lowerC c = c := by
 have := all256 (p := fun c => (decide ((c.toNat : Int) ≥ 65) && decide ((c.toNat : Int) ≤ 90)) || (lowerC c == c)) (by decide +kernel) c
 simpa [h] using this
theorem text_Lower_f {s : List UInt8} (hn : s.length < 140737488355328) : text_Lower.f s = some (lower s) := by
 have hL : text_Lower.L3.f s (s.length : Int) 0 = some (lower s) := by
  unfold text_Lower.L3.f
  refine (Loop_list (A := Unit) (a := ()) s (fun k _ => ((s.take k).map lowerC ++ s.drop k, (k : Int))) (fun _ _ => True) (fun _ _ => .inl ()) (fun _ => lower s) ?_ ?_ (by omega) trivial (by simp)).trans ?_
  ·intro k a c _ hk hc
   refine ⟨?_, fun _ _ => trivial⟩
   subst hc
   have hw := wS (k := k) (by omega)
   have ha := lower_at hk
   have hl := lower_len (Nat.le_of_lt hk)
   unfold text_Lower.L3.t
   simp only [Int.toNat_natCast, Nat.zero_add, ha, hl, lt_nat, decide_eq_true hk, hw, lower_next hk]
   by_cases h1 : (s[k].toNat : Int) ≥ 65
   ·by_cases h2 : (s[k].toNat : Int) ≤ 90
    ·obtain ⟨q1, q2⟩ := lower_byte s[k] h1 h2
     rw [q1]
     simp only [Tr.val, h1, h2, decide_true, cond_true, Int.toNat_natCast, q2, lower_set hk, List.length_set, hl]
     simp [hk]
     omega
    ·have := lower_not s[k] (fun h => h2 h.2)
     simp only [Tr.val, h1, h2, decide_true, decide_false, cond_true, cond_false, this]
     simp [hk]
   ·have := lower_not s[k] (fun h => h1 h.1)
    simp only [Tr.val, h1, decide_true, decide_false, cond_true, cond_false, this]
    simp [hk]
  ·intro a _
   simp [text_Lower.L3.t, Tr.val, lower]
  ·have : ∀ (l : List UInt8), foldE (fun (_ : Unit) (_ : UInt8) => (Sum.inl () : Unit ⊕ List UInt8)) (fun _ => lower s) () l = lower s := by
    intro l
    induction l with
    | nil => rfl
    | cons c l ih => exact ih
   rw [this]
 unfold text_Lower.f text_Lower.t
 rw [List.nil_append, hL]
 simp [Tr.val]
 omega
theorem text_Same_f {a b : List UInt8} (ha : a.length < 140737488355328) (hb : b.length < 140737488355328) : text_Same.f a b = some (same a b) := by
 unfold text_Same.f text_Same.t
 rw [text_Lower_f ha, text_Lower_f hb]
 rfl
theorem indexByte_cases (c : UInt8) (s : List UInt8) : Lib.indexByte s c = if s.contains c = true then ((before c s).length : Int) else -1 := by
 by_cases h : s.contains c = true
 ·rw [if_pos h, indexByte_is h]
 ·rw [if_neg h, indexByte_not (by simpa using h)]
theorem take_all {α : Type} (l : List α) : List.take l.length (List.drop 0 l) = l := by simp
theorem slite_f (s : List UInt8) (c : UInt8) : slite_IndexByte.f s (c.toNat : Int) = some (if s.contains c = true then ((before c s).length : Int) else -1) := by
 unfold slite_IndexByte.f
 have : ((c.toNat : Int)).toNat.toUInt8 = c := by simp
 rw [this, indexByte_cases]
theorem before_one {c : UInt8} {s : List UInt8} (h : [c] = s) : s.contains c = true ∧ (before c s).length = 0 := by
 subst h; simp [before]
theorem index3a_f (s : List UInt8) : internal_stringslite_Index_sx3a.f s = some (if s.contains 58 = true then ((before 58 s).length : Int) else -1) := by
 unfold internal_stringslite_Index_sx3a.f internal_stringslite_Index_sx3a.t
 rw [show (58 : Int) = ((58 : UInt8).toNat : Int) from rfl, slite_f]
 by_cases h : [(58 : UInt8)] = s
 ·have := before_one h
  simp only [Tr.val, beq_iff_eq.2 h, cond_true, this.1, this.2, if_true]
  rfl
 ·simp [Tr.val, beq_eq_false_iff_ne.2 h]
def cutT (idx : Option Int) (s : List UInt8) : Tr (List UInt8 × List UInt8 × Bool) :=
 .call idx fun y1 =>
 .br (decide (y1 ≥ (0 : Int))) (.chk ((0 : Int) ≤ (0 : Int) ∧ (0 : Int) ≤ y1 ∧ y1 ≤ (↑s.length : Int)) <| .chk ((0 : Int) ≤ IntKind.i64.wrap (y1 + (1 : Int)) ∧ IntKind.i64.wrap (y1 + (1 : Int)) ≤ (↑s.length : Int) ∧ (↑s.length : Int) ≤ (↑s.length : Int)) <| .ret (List.drop (↑(0 : Nat) : Int).toNat (List.take y1.toNat s), List.drop (IntKind.i64.wrap (y1 + (1 : Int))).toNat (List.take (↑s.length : Int).toNat s), true))
 (.ret (s, [], false))
theorem cutT_f {c : UInt8} {s : List UInt8} (hn : s.length < 1125899906842624) : (cutT (some (if s.contains c = true then ((before c s).length : Int) else -1)) s).val = some (cutC c s) := by
 unfold cutC cutT
 by_cases h : s.contains c = true
 ·have hl := before_len h
  have hw := wS (k := (before c s).length) (by omega)
  simp only [if_pos h, Tr.val, hw, Int.toNat_natCast, take_before h]
  rw [if_pos (by omega), if_pos (by omega)]
  simp [drop_after h]
 ·simp only [if_neg h]
  simp [Tr.val]
theorem cut3a_f {s : List UInt8} (hn : s.length < 1125899906842624) : strings_Cut_sx3a.f s = some (cutC 58 s) := by
 have h1 : internal_stringslite_Cut_sx3a.f s = some (cutC 58 s) := by
  unfold internal_stringslite_Cut_sx3a.f
  show (cutT (internal_stringslite_Index_sx3a.f s) s).val = _
  rw [index3a_f, cutT_f hn]
 unfold strings_Cut_sx3a.f strings_Cut_sx3a.t
 rw [h1]; rfl
theorem contains3a_f (s : List UInt8) : strings_Contains_sx3a.f s = some (s.contains 58) := by
 unfold strings_Contains_sx3a.f strings_Contains_sx3a.t strings_Index_sx3a.f strings_Index_sx3a.t
 rw [index3a_f]
 cases h : s.contains 58 <;> simp [Tr.val]
def pctStep : List UInt8 → Nat ⊕ (Unit ⊕ Bool)
 | a :: b :: _ => if (isHex a && isHex b) = true then .inl 3 else .inr (.inr false)
 | _ => .inr (.inr false)
def signStep (others : List UInt8) (pct : Bool) : List UInt8 → Nat ⊕ (Unit ⊕ Bool)
 | [] => .inr (.inl ())
 | c :: l => if (isDigit c || isLetter c || others.contains c) = true then .inl 1 else if (pct && c == 37) = true then pctStep l else .inr (.inr false)
theorem signsGo_cons (others : List UInt8) (pct : Bool) (c : UInt8) (l : List UInt8) : signsGo others pct (c :: l) = if (isDigit c || isLetter c || others.contains c) = true then signsGo others pct l else if (pct && c == 37) = true then (match l with
  | a :: b :: l' => isHex a && isHex b && signsGo others pct l'
  | _ => false)
 else false := by
 cases l with
 | nil => simp [signsGo]
 | cons a l =>
  cases l with
  | nil => simp [signsGo]
  | cons b l => rw [signsGo]
theorem signStep_pos {others : List UInt8} {pct : Bool} {l : List UInt8} {j : Nat} (h : signStep others pct l = .inl j) : 0 < j ∧ j ≤ l.length := by
 cases l with
 | nil => simp [signStep] at h
 | cons c l =>
  unfold signStep at h
  simp only at h
  by_cases h1 : (isDigit c || isLetter c || others.contains c) = true
  ·rw [if_pos h1] at h
   cases h
   simp
  ·rw [if_neg h1] at h
   by_cases h2 : (pct && c == 37) = true
   ·rw [if_pos h2] at h
    cases l with
    | nil => cases h
    | cons a l =>
     cases l with
     | nil => cases h
     | cons b l =>
      simp only [pctStep] at h
      by_cases h3 : (isHex a && isHex b) = true
      ·rw [if_pos h3] at h
       cases h
       simp
      ·rw [if_neg h3] at h
       cases h
   ·rw [if_neg h2] at h
    cases h
theorem signs_spec (others : List UInt8) (pct : Bool) (l : List UInt8) : (if signsGo others pct l = true then (Sum.inl () : Unit ⊕ Bool) else .inr false) = goOn (fun l => if signsGo others pct l = true then (Sum.inl () : Unit ⊕ Bool) else .inr false) l (signStep others pct l) := by
 cases l with
 | nil => rfl
 | cons c l =>
  rw [signsGo_cons]
  unfold signStep
  by_cases h1 : (isDigit c || isLetter c || others.contains c) = true
  ·simp only [if_pos h1, goOn, List.drop_succ_cons, List.drop_zero]
  ·simp only [if_neg h1]
   by_cases h2 : (pct && c == 37) = true
   ·simp only [if_pos h2]
    cases l with
    | nil => rfl
    | cons a l =>
     cases l with
     | nil => rfl
     | cons b l =>
      by_cases h3 : (isHex a && isHex b) = true
      ·simp only [pctStep, if_pos h3, goOn, h3, Bool.true_and]
       rfl
      ·simp only [pctStep, if_neg h3, goOn, (by simpa using h3 : (isHex a && isHex b) = false), Bool.false_and]
       rfl
   ·simp only [if_neg h2]
    rfl
theorem letter_or (c : UInt8) : ((decide (IntKind.u8.wrap (↑(BitVec.ofInt IntKind.u8.bits (c.toNat : Int) ||| BitVec.ofInt IntKind.u8.bits (32 : Int)).toNat : Int) ≥ (97 : Int))) && (decide (IntKind.u8.wrap (↑(BitVec.ofInt IntKind.u8.bits (c.toNat : Int) ||| BitVec.ofInt IntKind.u8.bits (32 : Int)).toNat : Int) ≤ (122 : Int)))) = isLetter c := by
 have := all256 (p := fun c => ((decide (IntKind.u8.wrap (↑(BitVec.ofInt IntKind.u8.bits (c.toNat : Int) ||| BitVec.ofInt IntKind.u8.bits (32 : Int)).toNat : Int) ≥ (97 : Int))) && (decide (IntKind.u8.wrap (↑(BitVec.ofInt IntKind.u8.bits (c.toNat : Int) ||| BitVec.ofInt IntKind.u8.bits (32 : Int)).toNat : Int) ≤ (122 : Int)))) == isLetter c) (by decide +kernel) c
 simpa using this
theorem indexByte_f (s : List UInt8) (c : UInt8) : strings_IndexByte.f s (c.toNat : Int) = some (if s.contains c = true then ((before c s).length : Int) else -1) := by
 unfold strings_IndexByte.f strings_IndexByte.t
 rw [slite_f]; rfl
theorem drop_two {s : List UInt8} {i : Nat} {c a b : UInt8} {l : List UInt8} (h : s.drop i = c :: a :: b :: l) : List.drop (i + 1) (List.take (i + 3) s) = [a, b] := by
 have : List.drop (i + 1) (List.take (i + 3) s) = ((s.drop i).take 3).drop 1 := by
  rw [List.take_drop, List.drop_drop]
 rw [this, h]
 rfl
theorem signs_f {s others : List UInt8} {pct : Bool} (hn : s.length < 1125899906842000) : target_signs.f s others pct = some (signsGo others pct s) := by
 have hL : target_signs.L2.f s others pct 0 = some (if signsGo others pct s = true then .inl () else .inr false) := by
  unfold target_signs.L2.f
  refine Loop_drop s (signStep others pct) (fun l => if signsGo others pct l = true then .inl () else .inr false) (signs_spec others pct) ?_ ?_ (by omega)
  ·exact fun l j h => signStep_pos h
  ·intro i hi
   by_cases hk : i < s.length
   ·have e := List.drop_eq_getElem_cons hk
    have hlen := congrArg List.length e
    simp only [List.length_drop, List.length_cons] at hlen
    have hw1 := wS (k := i) (by omega)
    have hw2 : IntKind.i64.wrap ((i : Int) + 2) = ((i + 2 : Nat) : Int) := by rw [w64 (by omega) (by omega)]; omega
    have hw3 : IntKind.i64.wrap ((i : Int) + 3) = ((i + 3 : Nat) : Int) := by rw [w64 (by omega) (by omega)]; omega
    have hw4 : IntKind.i64.wrap (((i + 2 : Nat) : Int) + 1) = ((i + 3 : Nat) : Int) := by rw [w64 (by omega) (by omega)]; omega
    have hlet := letter_or s[i]
    rw [e]
    unfold target_signs.L2.t signStep
    simp only [getD_at hk rfl, octet_Digit_f, indexByte_f, Tr.val, lt_nat, decide_eq_true hk, cond_true, in_rng hk, if_true, hw1, hw2, hw3, hw4, and_self]
    generalize hA : decide (IntKind.u8.wrap (↑(BitVec.ofInt IntKind.u8.bits (s[i].toNat : Int) ||| BitVec.ofInt IntKind.u8.bits (32 : Int)).toNat : Int) ≥ (97 : Int)) = A at hlet ⊢
    generalize hB : decide (IntKind.u8.wrap (↑(BitVec.ofInt IntKind.u8.bits (s[i].toNat : Int) ||| BitVec.ofInt IntKind.u8.bits (32 : Int)).toNat : Int) ≤ (122 : Int)) = B at hlet ⊢
    rw [← hlet]
    have h37 : ((s[i].toNat : Int) == 37) = (s[i] == 37) := byte_eqI s[i] 37 (by decide) (by decide)
    rw [h37]
    have hidx : decide ((if others.contains s[i] = true then ((before s[i] others).length : Int) else -1) ≥ 0) = others.contains s[i] := by
     cases others.contains s[i] <;> simp
    rw [hidx]
    have hP : (bif decide (i + 2 < s.length) then (if (0 : Int) ≤ ((i + 1 : Nat) : Int) ∧ ((i + 1 : Nat) : Int) ≤ ((i + 3 : Nat) : Int) ∧ ((i + 3 : Nat) : Int) ≤ (s.length : Int) then (Tr.call (octet_All.f [5] (List.drop (Int.toNat ((i + 1 : Nat) : Int)) (List.take (Int.toNat ((i + 3 : Nat) : Int)) s))) fun y => Tr.br y (Tr.ret (Sum.inl ((i + 3 : Nat) : Int))) (Tr.ret (Sum.inr (Sum.inr false)))).val else none) else some (Sum.inr (Sum.inr false) : Int ⊕ (Unit ⊕ Bool))) = some (addTo i (pctStep (s.drop (i + 1)))) := by
     by_cases h2 : i + 2 < s.length
     ·obtain ⟨a, b, l, hd⟩ : ∃ a b l, s.drop (i + 1) = a :: b :: l := by
       have e1 := List.drop_eq_getElem_cons (show i + 1 < s.length by omega)
       have e2 := List.drop_eq_getElem_cons (show i + 1 + 1 < s.length by omega)
       exact ⟨_, _, _, by rw [e1, e2]⟩
      have hd2 := drop_two (show s.drop i = s[i] :: a :: b :: l by rw [e, hd])
      rw [decide_eq_true h2, cond_true, if_pos (by omega), Int.toNat_natCast, Int.toNat_natCast, hd2, hd, octet_All1 (by simp)]
      have k5 : ∀ c, isKind 5 c = isHex c := fun c => by simp [isKind]
      simp only [List.all_cons, List.all_nil, Bool.and_true, k5, Tr.val]
      rw [pctStep]
      cases h3 : (isHex a && isHex b) <;> rfl
     ·rw [decide_eq_false h2, cond_false]
      have : (s.drop (i + 1)).length ≤ 1 := by simp; omega
      cases hd : s.drop (i + 1) with
      | nil => rfl
      | cons a l =>
       cases l with
       | nil => rfl
       | cons b l => rw [hd] at this; simp at this
    cases isDigit s[i] <;> cases A <;> cases B <;> cases others.contains s[i] <;> cases pct <;> cases (s[i] == 37) <;> (try simp only [decide_true, cond_true, cond_false, Bool.false_or, Bool.or_false, Bool.true_or, Bool.or_true, Bool.and_true, Bool.true_and, Bool.and_false, Bool.false_and, if_true, Bool.false_eq_true, if_false]) <;> (first | rfl | exact hP)
   ·have hkl : i = s.length := by omega
    subst hkl
    simp [target_signs.L2.t, Tr.val, signStep, addTo]
 unfold target_signs.f target_signs.t
 rw [hL]
 cases signsGo others pct s <;> rfl
def innerSigns : List UInt8 := [45, 46, 95, 126, 33, 36, 38, 39, 40, 41, 42, 43, 44, 59, 61, 58, 64, 47]
def starts (c : UInt8) (s : List UInt8) : Bool := match s with
 | x :: _ => x == c
 | [] => false
def pathS (s : List UInt8) : Bool := starts 47 s && signsGo innerSigns true s
theorem prefix2f_f (s : List UInt8) : strings_HasPrefix_sx2f.f s = some (starts 47 s) := by
 have h1 : internal_stringslite_HasPrefix_sx2f.f s = some (starts 47 s) := by
  unfold internal_stringslite_HasPrefix_sx2f.f internal_stringslite_HasPrefix_sx2f.t starts
  cases s with
  | nil => simp [Tr.val]
  | cons x l =>
   have h : decide ((((x :: l).length : Nat) : Int) ≥ 1) = true := by simp; omega
   simp only [Tr.val, h, cond_true]
   rw [if_pos (by simp; omega)]
   simp
 unfold strings_HasPrefix_sx2f.f strings_HasPrefix_sx2f.t
 rw [h1]; rfl
theorem path_f {s : List UInt8} (hn : s.length < 1099511627776) : target_Path.f s = some (pathS s) := by
 unfold target_Path.f target_Path.t pathS
 rw [prefix2f_f, signs_f (by omega)]
 cases starts 47 s <;> simp [Tr.val, innerSigns]
theorem vtrue {α : Type} (a b : Tr α) : (Tr.br true a b).val = a.val := rfl
theorem vfalse {α : Type} (a b : Tr α) : (Tr.br false a b).val = b.val := rfl
def idxV : Unit ⊕ Int → Int
 | .inl _ => -1
 | .inr j => j
def idxStep {α : Type} (p : α → Bool) (k : Nat) (c : α) : Option (Unit ⊕ Int) := if p c = true then some (.inr (k : Int)) else none
theorem idx_scan {α : Type} (p : α → Bool) : ∀ (l : List α) (k : Nat), idxV (scan (idxStep p) (.inl ()) k l) = if l.any p = true then ((k + l.findIdx p : Nat) : Int) else -1
 | [], _ => rfl
 | c :: l, k => by
  rw [scan, idxStep, List.any_cons, List.findIdx_cons]
  by_cases h : p c = true
  ·simp [h, idxV]
  ·have h' : p c = false := by simpa using h
   simp only [h', Bool.false_eq_true, if_false, Bool.false_or, cond_false]
   rw [idx_scan p l (k + 1)]
   split
   ·congr 1; omega
   ·rfl
theorem idx_ge {α : Type} (p : α → Bool) (l : List α) : decide (idxV (scan (idxStep p) (.inl ()) 0 l) ≥ 0) = l.any p := by
 rw [idx_scan]
 cases l.any p <;> simp
theorem idx_t (q : Unit ⊕ Int) {k : Unit → Tr Int} (hk : k () = .ret (-1)) : (Tr.both (some q) k (fun y => Tr.ret y)).val = some (idxV q) := by
 cases q with
 | inl u => cases u; show (k ()).val = _; rw [hk]; rfl
 | inr j => rfl
end Pl
end Go.Vx
end
section
set_option linter.unusedVariables false
set_option linter.unusedSimpArgs false
set_option maxRecDepth 100000
namespace Go.Vx
namespace Pl
open Go
end Pl
end Go.Vx
end
section
set_option linter.unusedVariables false
set_option linter.unusedSimpArgs false
set_option maxRecDepth 100000
namespace Go.Vx
namespace Pl
open Go Go.Proofs
def kindNames : List (List UInt8) := [[(97 : UInt8), (100 : UInt8), (100 : UInt8), (102 : UInt8), (105 : UInt8), (101 : UInt8), (108 : UInt8), (100 : UInt8)], [(100 : UInt8), (114 : UInt8), (111 : UInt8), (112 : UInt8), (102 : UInt8), (105 : UInt8), (101 : UInt8), (108 : UInt8), (100 : UInt8)], [(115 : UInt8), (101 : UInt8), (116 : UInt8), (102 : UInt8), (105 : UInt8), (101 : UInt8), (108 : UInt8), (100 : UInt8)], [(114 : UInt8), (101 : UInt8), (119 : UInt8), (114 : UInt8), (105 : UInt8), (116 : UInt8), (101 : UInt8)], [(97 : UInt8), (117 : UInt8), (116 : UInt8), (104 : UInt8)], [(99 : UInt8), (111 : UInt8), (114 : UInt8), (115 : UInt8)], [(97 : UInt8), (108 : UInt8), (108 : UInt8), (111 : UInt8), (119 : UInt8), (110 : UInt8), (101 : UInt8), (116 : UInt8)], [(100 : UInt8), (101 : UInt8), (110 : UInt8), (121 : UInt8), (110 : UInt8), (101 : UInt8), (116 : UInt8)], [(114 : UInt8), (97 : UInt8), (116 : UInt8), (101 : UInt8)], [(99 : UInt8), (97 : UInt8), (112 : UInt8)], [(114 : UInt8), (101 : UInt8), (100 : UInt8), (105 : UInt8), (114 : UInt8), (101 : UInt8), (99 : UInt8), (116 : UInt8)], [(115 : UInt8), (116 : UInt8), (97 : UInt8), (116 : UInt8), (105 : UInt8), (99 : UInt8)]]
theorem fields_lit : strings_Fields.f [(97 : UInt8), (100 : UInt8), (100 : UInt8), (102 : UInt8), (105 : UInt8), (101 : UInt8), (108 : UInt8), (100 : UInt8), (32 : UInt8), (100 : UInt8), (114 : UInt8), (111 : UInt8), (112 : UInt8), (102 : UInt8), (105 : UInt8), (101 : UInt8), (108 : UInt8), (100 : UInt8), (32 : UInt8), (115 : UInt8), (101 : UInt8), (116 : UInt8), (102 : UInt8), (105 : UInt8), (101 : UInt8), (108 : UInt8), (100 : UInt8), (32 : UInt8), (114 : UInt8), (101 : UInt8), (119 : UInt8), (114 : UInt8), (105 : UInt8), (116 : UInt8), (101 : UInt8), (32 : UInt8), (97 : UInt8), (117 : UInt8), (116 : UInt8), (104 : UInt8), (32 : UInt8), (99 : UInt8), (111 : UInt8), (114 : UInt8), (115 : UInt8), (32 : UInt8), (97 : UInt8), (108 : UInt8), (108 : UInt8), (111 : UInt8), (119 : UInt8), (110 : UInt8), (101 : UInt8), (116 : UInt8), (32 : UInt8), (100 : UInt8), (101 : UInt8), (110 : UInt8), (121 : UInt8), (110 : UInt8), (101 : UInt8), (116 : UInt8), (32 : UInt8), (114 : UInt8), (97 : UInt8), (116 : UInt8), (101 : UInt8), (32 : UInt8), (99 : UInt8), (97 : UInt8), (112 : UInt8), (32 : UInt8), (114 : UInt8), (101 : UInt8), (100 : UInt8), (105 : UInt8), (114 : UInt8), (101 : UInt8), (99 : UInt8), (116 : UInt8), (32 : UInt8), (115 : UInt8), (116 : UInt8), (97 : UInt8), (116 : UInt8), (105 : UInt8), (99 : UInt8)] = some kindNames := by decide +kernel
def hasV (k : Int) : Int := if 1 ≤ k ∧ k ≤ 12 then [(9 : Int), 1, 9, 9, 9, 8, 8, 8, 6, 2, 10, 10].getD (k - 1).toNat 0 else 0
theorem kind_nat {k : Int} (h : 1 ≤ k ∧ k ≤ 12) : ∃ n : Fin 12, k = ((n.val + 1 : Nat) : Int) := ⟨⟨(k - 1).toNat, by omega⟩, by simp; omega⟩
theorem has_f (k : Int) : rule_has.f k = some (hasV k) := by
 by_cases h : 1 ≤ k ∧ k ≤ 12
 ·obtain ⟨n, rfl⟩ := kind_nat h
  exact (show ∀ n : Fin 12, rule_has.f ((n.val + 1 : Nat) : Int) = some (hasV ((n.val + 1 : Nat) : Int)) by decide +kernel) n
 ·unfold rule_has.f rule_has.t hasV
  rw [fields_lit, Tr.val_call rfl, if_neg h]
  by_cases h1 : k ≥ 1
  ·have h2 : ¬ k ≤ 12 := by omega
   rw [decide_eq_true h1, vtrue, decide_eq_false h2, vfalse]; rfl
  ·rw [decide_eq_false h1, vfalse]; rfl
theorem hasV_mem (k : Int) : hasV k ∈ [(0 : Int), 9, 1, 8, 6, 2, 10] := by
 by_cases h : 1 ≤ k ∧ k ≤ 12
 ·obtain ⟨n, rfl⟩ := kind_nat h
  exact (show ∀ n : Fin 12, hasV ((n.val + 1 : Nat) : Int) ∈ [(0 : Int), 9, 1, 8, 6, 2, 10] by decide +kernel) n
 ·unfold hasV; rw [if_neg h]; simp
def bitS (h : Int) (b : Nat) : Bool := h.toNat.testBit b
def aloneS (h : Int) (Name Value : List UInt8) (N M : Int) : Bool := (bitS h 0 || Name == []) && (bitS h 1 || N == 0) && (bitS h 2 || M == 0) && (bitS h 3 || Value == [])
theorem alone_f (Kind : Int) (Name Value : List UInt8) (N M : Int) : rule_alone.f Kind Name Value N M = some (aloneS (hasV Kind) Name Value N M) := by
 have hm := hasV_mem Kind
 unfold rule_alone.f rule_alone.t aloneS
 rw [has_f, Tr.val_call rfl]
 generalize hasV Kind = h at hm ⊢
 have e0 : ∀ h ∈ [(0 : Int), 9, 1, 8, 6, 2, 10], (IntKind.i64.wrap (↑(BitVec.ofInt IntKind.i64.bits h &&& BitVec.ofInt IntKind.i64.bits (1 : Int)).toNat : Int) != (0 : Int)) = bitS h 0 := by decide +kernel
 have e1 : ∀ h ∈ [(0 : Int), 9, 1, 8, 6, 2, 10], (IntKind.i64.wrap (↑(BitVec.ofInt IntKind.i64.bits h &&& BitVec.ofInt IntKind.i64.bits (2 : Int)).toNat : Int) != (0 : Int)) = bitS h 1 := by decide +kernel
 have e2 : ∀ h ∈ [(0 : Int), 9, 1, 8, 6, 2, 10], (IntKind.i64.wrap (↑(BitVec.ofInt IntKind.i64.bits h &&& BitVec.ofInt IntKind.i64.bits (4 : Int)).toNat : Int) != (0 : Int)) = bitS h 2 := by decide +kernel
 have e3 : ∀ h ∈ [(0 : Int), 9, 1, 8, 6, 2, 10], (IntKind.i64.wrap (↑(BitVec.ofInt IntKind.i64.bits h &&& BitVec.ofInt IntKind.i64.bits (8 : Int)).toNat : Int) != (0 : Int)) = bitS h 3 := by decide +kernel
 rw [e0 h hm, e1 h hm, e2 h hm, e3 h hm]
 generalize bitS h 0 = b0
 generalize bitS h 1 = b1
 generalize bitS h 2 = b2
 generalize bitS h 3 = b3
 generalize (Name == []) = n0
 generalize (Value == []) = v0
 generalize (N == (0 : Int)) = q0
 generalize (M == (0 : Int)) = m0
 cases b0 <;> cases b1 <;> cases b2 <;> cases b3 <;> cases n0 <;> cases q0 <;> cases m0 <;> rfl
theorem rune_big (n b0 b1 b2 b3 : Nat) (h0 : 128 ≤ b0) : 128 ≤ (Lib.decodeN n b0 b1 b2 b3).1 := by
 unfold Lib.decodeN
 repeat' split
 all_goals (simp only; omega)
theorem pWord_big {r : Nat} (h : 128 ≤ r) : pWord r = true := by
 have : r ≤ r ||| 32 := Nat.left_le_or
 unfold pWord
 simp only [Bool.and_eq_true, Bool.or_eq_true, decide_eq_true_eq]
 omega
theorem size_data (s : ByteArray) : s.data.toList.length = s.size := by simp
theorem idx_any (s : ByteArray) : ∀ (f pos : Nat), s.size ≤ pos + f → decide (0 ≤ Lib.idxFuncFrom pWord true s f pos) = (s.data.toList.drop pos).any fun c => pWord c.toNat
 | 0, pos, h => by
  rw [List.drop_eq_nil_of_le (by rw [size_data]; omega)]
  rfl
 | f + 1, pos, h => by
  rw [Lib.idxFuncFrom]
  by_cases hp : pos < s.size
  ·have hd := List.drop_eq_getElem_cons (l := s.data.toList) (i := pos) (by rw [size_data]; exact hp)
   have hg : s.data.toList.getD pos 0 = s.data.toList[pos]'(by rw [size_data]; exact hp) := by
    rw [List.getD_eq_getElem?_getD, List.getElem?_eq_getElem]; rfl
   rw [if_pos hp, hd, List.any_cons, ← hg, Lib.decode_at]
   simp only [← Lib.getD_get!']
   generalize s.data.toList.getD pos 0 = c0
   by_cases hlo : c0.toNat < 128
   ·have e : Lib.decodeN (s.size - pos) c0.toNat (s.data.toList.getD (pos + 1) 0).toNat (s.data.toList.getD (pos + 2) 0).toNat (s.data.toList.getD (pos + 3) 0).toNat = (c0.toNat, 1) := by unfold Lib.decodeN; rw [if_pos hlo]
    rw [e]
    simp only
    cases hw : pWord c0.toNat
    ·rw [if_neg (by simp), idx_any s f (pos + 1) (by omega)]; rfl
    ·rw [if_pos rfl]; simp
   ·rw [pWord_big (rune_big _ _ _ _ _ (by omega)), if_pos rfl, pWord_big (by omega)]
    simp
  ·rw [if_neg hp, List.drop_eq_nil_of_le (by rw [size_data]; omega)]
   rfl
theorem containsFunc_f (s : List UInt8) : strings_ContainsFunc.f s = some (s.any fun c => pWord c.toNat) := by
 unfold strings_ContainsFunc.f Lib.idxFunc
 rw [idx_any _ _ _ (by simp)]
 simp
def wordS (s : List UInt8) : Bool := !(s == []) && decide (s.length ≤ 64) && s.all fun c => !pWord c.toNat
theorem word_f (s : List UInt8) : rule_word.f s = some (wordS s) := by
 unfold rule_word.f rule_word.t wordS
 rw [containsFunc_f]
 have e : (!(s.any fun c => pWord c.toNat)) = s.all fun c => !pWord c.toNat := by rw [List.not_any_eq_all_not]
 have h : decide ((s.length : Int) ≤ 64) = decide (s.length ≤ 64) := decide_eq_decide.2 (by omega)
 rw [h]
 cases (s == []) <;> cases decide (s.length ≤ 64) <;> simp [Tr.val, ← e]
theorem before_app {c : UInt8} : ∀ {a b : List UInt8}, a.contains c = false → before c (a ++ c :: b) = a ∧ after c (a ++ c :: b) = b
 | [], b, _ => by simp [before, after]
 | x :: a, b, h => by
  have hx : x ≠ c := by intro e; subst e; simp at h
  have ha : a.contains c = false := by simp at h ⊢; exact h.2
  have := before_app (b := b) ha
  unfold before after at this ⊢
  simp [hx, this]
def fieldR (name value : List UInt8) : Bool := !(name == []) && name.all isTok && value.all isText && trim value == value
theorem kind_tok : ∀ s : List UInt8, s.all (isKind 1) = s.all isTok := fun s => by congr 1
theorem kind_vis : ∀ s : List UInt8, s.all (isKind 2) = s.all isVis := fun s => by congr 1
theorem kind_text : ∀ s : List UInt8, s.all (isKind 6) = s.all isText := fun s => by congr 1
theorem fieldR_f {name value : List UInt8} (h1 : name.length ≤ 1000000) (h2 : value.length ≤ 1000000) : field_Right.f name value = some (fieldR name value) := by
 have hx : name ++ [(58 : UInt8)] ++ value = name ++ 58 :: value := by simp
 have hc : (name ++ 58 :: value).contains 58 = true := by simp
 have hout : field_out.f 0 12 = some ([], [], false, 400) := by decide +kernel
 unfold field_Right.f field_Right.t fieldR
 rw [Tr.val_chk (by simp; omega), Tr.val_chk (by simp; omega), hx, cut3a_f (by simp; omega), Tr.val_call rfl]
 unfold cutC
 rw [if_pos hc]
 have hl := before_len hc
 simp only [List.length_append, List.length_cons] at hl
 by_cases h58 : name.contains 58 = true
 ·have hb : (before 58 (name ++ 58 :: value) == name) = false := by
   rw [beq_eq_false_iff_ne]
   intro e
   have hn : (before 58 (name ++ 58 :: value)).contains 58 = false := by
    unfold before
    rw [List.contains_eq_any_beq, List.any_eq_false]
    intro x hx e
    have h3 := List.all_eq_true.1 (List.all_takeWhile (p := (· != (58 : UInt8))) (l := name ++ 58 :: value)) x hx
    rw [← beq_iff_eq.1 e] at h3
    simp at h3
   rw [e, h58] at hn
   cases hn
  have ht : name.all isTok = false := by
   rw [List.all_eq_false]
   exact ⟨58, by simpa using h58, by decide⟩
  rw [ht]
  simp only [Bool.not_true, vfalse]
  cases h0 : (before 58 (name ++ 58 :: value) == [])
  ·rw [vfalse, text_Trim_f (by omega), Tr.val_call rfl, octet_All1 (by omega), Tr.val_call rfl, octet_All1 (by have := trimP_length isBlank (after 58 (name ++ 58 :: value)); unfold trim; omega), hb]
   cases (before 58 (name ++ 58 :: value)).all (isKind 1) <;> cases (trim (after 58 (name ++ 58 :: value))).all (isKind 6) <;> simp [Tr.val]
  ·rw [vtrue, hout]
   simp [Tr.val]
 ·obtain ⟨q1, q2⟩ := before_app (b := value) (show name.contains 58 = false by simpa using h58)
  rw [q1, q2]
  simp only [Bool.not_true, vfalse]
  cases h0 : (name == [])
  ·rw [vfalse, text_Trim_f (by omega), Tr.val_call rfl, octet_All1 (by omega), Tr.val_call rfl, octet_All1 (by have := trimP_length isBlank value; unfold trim; omega), kind_tok, kind_text]
   cases ht : (trim value == value)
   ·cases name.all isTok <;> cases (trim value).all isText <;> simp [Tr.val, ht]
   ·have e : trim value = value := by simpa using ht
    rw [e]
    cases name.all isTok <;> cases value.all isText <;> simp [Tr.val]
  ·rw [vtrue, hout]
   simp [Tr.val]
theorem plain_any_f {l : List (List UInt8)} {what : List UInt8} (hn : l.length < 1125899906842624) (hs : ∀ x ∈ l, x.length ≤ 1000000) (hw : what.length ≤ 1000000) : slices_ContainsFunc_f_rule_plain_1.f l what = some (l.any fun x => same x what) := by
 have hL : slices_IndexFunc_f_rule_plain_1.L2.f l what (l.length : Int) 0 = some (scan (idxStep fun x => same x what) (.inl ()) 0 l) := by
  unfold slices_IndexFunc_f_rule_plain_1.L2.f
  refine Loop_scan l (idxStep fun x => same x what) (.inl ()) (fun k c hk hc => ?_) ?_ hn
  ·have hw' := wS (k := k) (by omega)
   have hcl := hs c (by rw [← hc]; exact List.getElem_mem hk)
   have f1 : rule_plain_1.f what c = some (same c what) := by
    unfold rule_plain_1.f rule_plain_1.t
    rw [text_Same_f (by omega) (by omega)]; rfl
   unfold slices_IndexFunc_f_rule_plain_1.L2.t idxStep
   simp only [Nat.zero_add, getD_at hk hc, f1, Tr.val, lt_nat, decide_eq_true hk, cond_true, hw']
   rw [if_pos (by omega), if_pos (by simpa using hk)]
   by_cases h : same c what = true
   ·simp only [h]; rfl
   ·have h' : same c what = false := by simpa using h
    simp only [h']; rfl
  ·simp [slices_IndexFunc_f_rule_plain_1.L2.t, Tr.val]
 have hI : slices_IndexFunc_f_rule_plain_1.f l what = some (idxV (scan (idxStep fun x => same x what) (.inl ()) 0 l)) := by
  unfold slices_IndexFunc_f_rule_plain_1.f slices_IndexFunc_f_rule_plain_1.t
  rw [hL]
  exact idx_t _ rfl
 unfold slices_ContainsFunc_f_rule_plain_1.f slices_ContainsFunc_f_rule_plain_1.t
 rw [take_all, hI, Tr.val_chk (by omega), Tr.val_call rfl, idx_ge]
 rfl
def fixedNames : List (List UInt8) := [[(72 : UInt8), (111 : UInt8), (115 : UInt8), (116 : UInt8)], [(67 : UInt8), (111 : UInt8), (110 : UInt8), (116 : UInt8), (101 : UInt8), (110 : UInt8), (116 : UInt8), (45 : UInt8), (76 : UInt8), (101 : UInt8), (110 : UInt8), (103 : UInt8), (116 : UInt8), (104 : UInt8)], [(84 : UInt8), (114 : UInt8), (97 : UInt8), (110 : UInt8), (115 : UInt8), (102 : UInt8), (101 : UInt8), (114 : UInt8), (45 : UInt8), (69 : UInt8), (110 : UInt8), (99 : UInt8), (111 : UInt8), (100 : UInt8), (105 : UInt8), (110 : UInt8), (103 : UInt8)], [(67 : UInt8), (111 : UInt8), (110 : UInt8), (110 : UInt8), (101 : UInt8), (99 : UInt8), (116 : UInt8), (105 : UInt8), (111 : UInt8), (110 : UInt8)]]
def plainS (name value : List UInt8) : Bool := fieldR name value && !(fixedNames.any fun x => same x name)
theorem plain_f {name value : List UInt8} (h1 : name.length ≤ 1000000) (h2 : value.length ≤ 1000000) : rule_plain.f name value = some (plainS name value) := by
 unfold rule_plain.f rule_plain.t plainS
 show (Tr.call (slices_ContainsFunc_f_rule_plain_1.f fixedNames name) _).val = _
 rw [plain_any_f (by decide) (by decide) h1, Tr.val_call rfl, fieldR_f h1 h2, Tr.val_call rfl]
 cases fieldR name value <;> simp [Tr.val]
theorem right_big {K : Int} {name value : List UInt8} {N M : Int} (h : 256 < name.length ∨ 256 < value.length) : rule_Right.f K name value N M = some false := by
 unfold rule_Right.f rule_Right.t
 by_cases h1 : (name.length : Int) > 256
 ·rw [decide_eq_true h1]; rfl
 ·have h2 : (value.length : Int) > 256 := by omega
  rw [decide_eq_false h1, vfalse, decide_eq_true h2]; rfl
theorem right_go {K : Int} {name value : List UInt8} {N M : Int} (h1 : name.length ≤ 256) (h2 : value.length ≤ 256) {X : Tr Bool} {r : Bool}
  (hX : rule_Right.t K name value N M = .br (decide ((name.length : Int) > 256)) (.ret false) (.br (decide ((value.length : Int) > 256)) (.ret false) (.call (rule_alone.f K name value N M) fun y1 => .br (!y1) (.ret false) X)))
  (hr : X.val = some r) : rule_Right.f K name value N M = some (aloneS (hasV K) name value N M && r) := by
 unfold rule_Right.f
 have q1 : ¬ (name.length : Int) > 256 := by omega
 have q2 : ¬ (value.length : Int) > 256 := by omega
 rw [hX, decide_eq_false q1, vfalse, decide_eq_false q2, vfalse, alone_f, Tr.val_call rfl]
 cases aloneS (hasV K) name value N M
 ·rfl
 ·rw [Bool.not_true, vfalse, hr]; rfl
theorem right_1 {name value : List UInt8} {N M : Int} (h1 : name.length ≤ 256) (h2 : value.length ≤ 256) : rule_Right.f 1 name value N M = some (aloneS 9 name value N M && plainS name value) := by
 refine right_go (K := 1) h1 h2 rfl ?_
 rw [show ((1 : Int) == 1) = true from rfl, vtrue, plain_f (by omega) (by omega)]; rfl
theorem right_4 {name value : List UInt8} {N M : Int} (h1 : name.length ≤ 256) (h2 : value.length ≤ 256) : rule_Right.f 4 name value N M = some (aloneS 9 name value N M && (decide (name.length ≤ 64) && decide (value.length ≤ 64) && pathS name && pathS value)) := by
 refine right_go (K := 4) h1 h2 rfl ?_
 have q1 : decide ((name.length : Int) ≤ 64) = decide (name.length ≤ 64) := decide_eq_decide.2 (by omega)
 have q2 : decide ((value.length : Int) ≤ 64) = decide (value.length ≤ 64) := decide_eq_decide.2 (by omega)
 show (Tr.br (decide ((name.length : Int) ≤ 64)) _ _).val = _
 rw [q1, q2, path_f (by omega), path_f (by omega)]
 cases decide (name.length ≤ 64) <;> cases decide (value.length ≤ 64) <;> cases pathS name <;> simp [Tr.val]
theorem right_5 {name value : List UInt8} {N M : Int} (h1 : name.length ≤ 256) (h2 : value.length ≤ 256) : rule_Right.f 5 name value N M = some (aloneS 9 name value N M && (wordS name && value.all isVis && value.contains 58)) := by
 refine right_go (K := 5) h1 h2 rfl ?_
 show (Tr.call (rule_word.f name) _).val = _
 rw [word_f, Tr.val_call rfl, octet_All1 (by omega), contains3a_f, kind_vis]
 cases wordS name <;> cases value.all isVis <;> simp [Tr.val]
theorem right_12 {name value : List UInt8} {N M : Int} (h1 : name.length ≤ 256) (h2 : value.length ≤ 256) : rule_Right.f 12 name value N M = some (aloneS 10 name value N M && (decide (200 ≤ N) && decide (N ≤ 599) && value.all isText)) := by
 refine right_go (K := 12) h1 h2 rfl ?_
 show (Tr.br (decide (N ≥ 200)) _ _).val = _
 rw [octet_All1 (by omega), kind_text]
 have e : decide (N ≥ 200) = decide (200 ≤ N) := rfl
 rw [e]
 cases decide (200 ≤ N) <;> cases decide (N ≤ 599) <;> simp [Tr.val]
end Pl
end Go.Vx
end
section
set_option maxRecDepth 1000000
set_option maxHeartbeats 4000000
set_option synthInstance.maxSize 100000
set_option synthInstance.maxHeartbeats 400000
set_option linter.unusedVariables false
namespace Go.Vx
open Go Go.Vx Go.Proofs
namespace law25_known
def D : Dom := ⟨[], .nil⟩
def A : Dom := ⟨[], .bool⟩
def sel : List Nat := []
def t  : Tr (Bool) :=
 .call (rule_Parse.f [(114 : UInt8), (97 : UInt8), (116 : UInt8), (101 : UInt8), (32 : UInt8), (53 : UInt8), (32 : UInt8), (49 : UInt8)]) fun (y1a, y1b, y1c, y1d, y1e, y1f) =>
 .call (rule_Line.f y1a y1b y1c y1d y1e) fun (y2a, y2b) =>
 .call (rule_Parse.f [(114 : UInt8), (97 : UInt8), (116 : UInt8), (101 : UInt8), (32 : UInt8), (53 : UInt8)]) fun (_, _, _, _, _, y3f) =>
 .call (rule_Kind.f [(115 : UInt8), (116 : UInt8), (97 : UInt8), (116 : UInt8), (105 : UInt8), (99 : UInt8)]) fun (y4a, y4b) =>
 .br y1f (.br (y1a == (9 : Int)) (.br (y1d == (5 : Int)) (.br (y1e == (1 : Int)) (.br y2b (.br (y2a == [(114 : UInt8), (97 : UInt8), (116 : UInt8), (101 : UInt8), (32 : UInt8), (53 : UInt8), (32 : UInt8), (49 : UInt8)]) (.br (!y3f) (.br y4b (.br (y4a == (12 : Int)) (.call (rule_Right.f y1a y1b y1c y1d y1e) fun y5 =>
      .br y5 (.call (rule_Right.f (0 : Int) [] [] (0 : Int) (0 : Int)) fun y6 =>
      .ret (!y6))
      (.ret false))
     (.ret false))
     (.ret false))
    (.ret false))
    (.ret false))
   (.ret false))
   (.ret false))
  (.ret false))
  (.ret false))
 (.ret false)
def f  : Option (Bool) := (t ).val
def F (x : D.den) : Option (Bool) := f
def pa : D.den → (Bool) → A.den := fun (_, _) y1 => ((), y1)
def con : Con := tcon D A pa F
theorem ok : ConOk Tryz.prog 7 con := tcon_ok Base.mixed Base.prog_ok bk_ref6_Path_ok (by kernel_rfl) LapsOk.nil 9 (fun _ => rfl) (fun x => t ) (fun _ => rfl) fun _ _ _ => (by kernel_rfl)
end law25_known
def bk_law25_known : Book := bk_ref6_Path.add 7 law25_known.con
theorem bk_law25_known_ok : BookOk Tryz.prog bk_law25_known := bk_ref6_Path_ok.add law25_known.ok
namespace law25_RuleSizes
def D : Dom := ⟨[], (.cat (.int .u16) .byte)⟩
namespace L5
def D : Dom := ⟨[], (.cat (.int .u16) (.cat (.int .u8) (.cat .str (.int .i64))))⟩
def A : Dom := ⟨[], (.cat (.int .u8) .str)⟩
def sel : List Nat := [0, 2, 3]
def t (n : Int) (s : List UInt8) (i : Int) : Tr ((List UInt8 × Int) ⊕ (List UInt8)) :=
 .br (decide (i < IntKind.i64.wrap (n.tmod (300 : Int)))) (.chk ((↑(s.length + [(97 : UInt8)].length) : Int) ≤ (9223372036854775807 : Int)) <| .ret (.inl (s ++ [(97 : UInt8)], IntKind.i64.wrap (i + (1 : Int)))))
 (.ret (.inr s))
def f (n : Int) (s : List UInt8) (i : Int) : Option (List UInt8) := Loop (fun z : List UInt8 × Int => t n z.1 z.2) (s, i)
def F (x : D.den) : Option (List UInt8) := f x.2.1 x.2.2.2.1 x.2.2.2.2
def pa : D.den → (List UInt8) → A.den := fun (_, (_, (kind, (_, _)))) y1 => ((), (kind, y1))
def lap : Lap := tlap 5 63 [0, 1, 5, 6] D (.exit 0) [1, 5] A pa F
def pk (x : D.den) (z : List UInt8 × Int) : D.den := ((), (x.2.1, (x.2.2.1, (z.1, z.2))))
def un (x : D.den) : List UInt8 × Int := (x.2.2.2.1, x.2.2.2.2)
def body (x : D.den) (z : List UInt8 × Int) : Tr ((List UInt8 × Int) ⊕ (List UInt8)) := t x.2.1 z.1 z.2
theorem ok : LapOk Tryz.prog 0 (codeOf Tryz.prog 6) lap := tlap_ok Base.mixed Base.prog_ok bk_law25_known_ok (by kernel_rfl) (by kernel_rfl) LapsOk.nil 9 pk un body (fun _ _ => rfl) (fun _ _ => rfl) (fun _ _ => rfl) (fun _ => rfl) fun _ _ _ _ => (by kernel_rfl)
end L5
def A : Dom := ⟨[], .bool⟩
def sel : List Nat := [0, 1]
def t (n : Int) (kind : UInt8) : Tr (Bool) :=
 .call (law25_known.f) fun y1 =>
 .br (!y1) (.ret false)
 (.call (law25_RuleSizes.L5.f n [] (0 : Int)) fun y2 =>
  .br ((Int.ofNat kind.toNat).tmod (4 : Int) == (0 : Int)) (.chk ((↑([(65 : UInt8)].length + y2.length) : Int) ≤ (9223372036854775807 : Int)) <| .call (rule_Right.f (1 : Int) ([(65 : UInt8)] ++ y2) [(98 : UInt8)] (0 : Int) (0 : Int)) fun y3 =>
  .ret (y3 == decide (IntKind.i64.wrap ((↑y2.length : Int) + (1 : Int)) ≤ (256 : Int))))
  (.br ((Int.ofNat kind.toNat).tmod (4 : Int) == (1 : Int)) (.chk ((↑([(47 : UInt8)].length + y2.length) : Int) ≤ (9223372036854775807 : Int)) <| .call (rule_Right.f (4 : Int) [(47 : UInt8), (97 : UInt8)] ([(47 : UInt8)] ++ y2) (0 : Int) (0 : Int)) fun y4 =>
   .ret (y4 == decide (IntKind.i64.wrap ((↑y2.length : Int) + (1 : Int)) ≤ (64 : Int))))
  (.br ((Int.ofNat kind.toNat).tmod (4 : Int) == (2 : Int)) (.call (rule_Right.f (5 : Int) y2 [(117 : UInt8), (58 : UInt8), (112 : UInt8)] (0 : Int) (0 : Int)) fun y5 =>
   .br (decide ((↑y2.length : Int) ≥ (1 : Int))) (.ret (y5 == decide ((↑y2.length : Int) ≤ (64 : Int))))
   (.ret (y5 == false)))
   (.call (rule_Right.f (12 : Int) [] y2 (200 : Int) (0 : Int)) fun y6 =>
   .ret (y6 == decide ((↑y2.length : Int) ≤ (256 : Int)))))))
def f (n : Int) (kind : UInt8) : Option (Bool) := (t n kind).val
def F (x : D.den) : Option (Bool) := f x.2.1 x.2.2
def pa : D.den → (Bool) → A.den := fun (_, (_, _)) y1 => ((), y1)
def con : Con := tcon D A pa F
theorem ok : ConOk Tryz.prog 6 con := tcon_ok Base.mixed Base.prog_ok bk_law25_known_ok (by kernel_rfl) (.cons L5.ok (by kernel_rfl) (.nil)) 9 (fun _ => rfl) (fun x => t x.2.1 x.2.2) (fun _ => rfl) fun _ _ _ => (by kernel_rfl)
theorem law_ok (h : ∀ x, (lawCon [(.int .u16), .byte]).pre x → F x = some true) : ConOk Tryz.prog 6 (lawCon [(.int .u16), .byte]) := Go.Vx.law_ok ok h
end law25_RuleSizes
end Go.Vx
end
section
set_option linter.unusedVariables false
set_option linter.unusedSimpArgs false
set_option maxRecDepth 100000
namespace Go.Vx
namespace Pl
open Go Go.Proofs
theorem known_ok : law25_known.f = some true := by decide +kernel
theorem as_loop {n : Int} {k : Nat} (hn : IntKind.i64.wrap (n.tmod (300 : Int)) = (k : Int)) (hk : k < 300) : law25_RuleSizes.L5.f n [] 0 = some (List.replicate k 97) := by
 unfold law25_RuleSizes.L5.f
 refine (Loop_list (A := List UInt8) (a := []) (List.replicate k ()) (fun i a => (a, (i : Int))) (fun i a => a = List.replicate i 97) (fun a _ => .inl (a ++ [97])) id ?_ ?_ (by simp; omega) rfl rfl).trans ?_
 ·intro i a c hi hik hc
  subst hi
  simp only [List.length_replicate] at hik
  have hw := wS (k := i) (by omega)
  have d : decide ((i : Int) < (k : Int)) = true := by simp; omega
  refine ⟨?_, fun a' ha' => by cases ha'; rw [← List.replicate_succ']⟩
  unfold law25_RuleSizes.L5.t
  simp only [hn]
  rw [d, vtrue, Tr.val_chk (by simp; omega), hw]
  rfl
 ·intro a _
  simp only [List.length_replicate]
  have d : decide ((k : Int) < (k : Int)) = false := by simp
  unfold law25_RuleSizes.L5.t
  simp only [hn]
  rw [d]; rfl
 ·congr 1
  have : ∀ (j : Nat) (a : List UInt8), foldE (fun a (_ : Unit) => (Sum.inl (a ++ [97]) : List UInt8 ⊕ List UInt8)) id a (List.replicate j ()) = a ++ List.replicate j 97 := by
   intro j
   induction j with
   | zero => intro a; simp [foldE]
   | succ j ih =>
    intro a
    rw [List.replicate_succ, foldE]
    simp only
    rw [ih, List.replicate_succ]
    simp
  simpa using this k []
theorem all_a {p : UInt8 → Bool} (h : p 97 = true) (k : Nat) : (List.replicate k (97 : UInt8)).all p = true := by
 rw [List.all_eq_true]
 intro x hx
 rw [List.eq_of_mem_replicate hx]; exact h
theorem signs_a : ∀ k : Nat, signsGo innerSigns true (List.replicate k 97) = true
 | 0 => rfl
 | k + 1 => by
  rw [List.replicate_succ, signsGo_cons, if_pos (by decide)]
  exact signs_a k
theorem sizes_ok {n : Int} (kind : UInt8) (h : (Lit.int .u16 n).wf = true) : law25_RuleSizes.f n kind = some true := by
 have h1 : 0 ≤ n ∧ n ≤ 65535 := by
  have : (decide (IntKind.u16.min ≤ n) && decide (n ≤ IntKind.u16.max)) = true := h
  simp only [Bool.and_eq_true, decide_eq_true_eq] at this
  exact this
 obtain ⟨m, rfl⟩ := Int.eq_ofNat_of_zero_le h1.1
 have hm : IntKind.i64.wrap ((m : Int).tmod (300 : Int)) = ((m % 300 : Nat) : Int) := by
  rw [show (m : Int).tmod (300 : Int) = ((m % 300 : Nat) : Int) from rfl]
  exact w64 (by omega) (by omega)
 have hk : m % 300 < 300 := by omega
 unfold law25_RuleSizes.f law25_RuleSizes.t
 rw [known_ok, Tr.val_call rfl, as_loop hm hk]
 rw [Bool.not_true, vfalse, Tr.val_call rfl]
 generalize m % 300 = k at hk
 have hlen : (List.replicate k (97 : UInt8)).length = k := by simp
 have hw := wS (k := k) (by omega)
 have c256 : decide ((((k + 1 : Nat) : Nat) : Int) ≤ 256) = decide (k + 1 ≤ 256) := decide_eq_decide.2 (by omega)
 have c64 : decide ((((k + 1 : Nat) : Nat) : Int) ≤ 64) = decide (k + 1 ≤ 64) := decide_eq_decide.2 (by omega)
 have d256 : decide ((k : Int) ≤ 256) = decide (k ≤ 256) := decide_eq_decide.2 (by omega)
 have d64 : decide ((k : Int) ≤ 64) = decide (k ≤ 64) := decide_eq_decide.2 (by omega)
 have d1 : decide ((k : Int) ≥ 1) = decide (1 ≤ k) := decide_eq_decide.2 (by omega)
 simp only [hlen, hw, c256, c64, d256, d64, d1]
 have r1 : rule_Right.f 1 ([(65 : UInt8)] ++ List.replicate k 97) [98] 0 0 = some (decide (k + 1 ≤ 256)) := by
  by_cases hb : k + 1 ≤ 256
  ·rw [right_1 (by simp; omega) (by simp)]
   have f1 : fieldR ([(65 : UInt8)] ++ List.replicate k 97) [98] = true := by
    unfold fieldR
    rw [List.all_append, all_a (by decide)]
    rfl
   have f2 : (fixedNames.any fun x => same x ([(65 : UInt8)] ++ List.replicate k 97)) = false := by
    rw [List.any_eq_false]
    intro x hx
    unfold same
    rw [beq_iff_eq]
    intro e
    have e2 : (lower ([(65 : UInt8)] ++ List.replicate k 97)).head? = some 97 := rfl
    rw [← e] at e2
    have : ∀ x ∈ fixedNames, (lower x).head? ≠ some 97 := by decide
    exact this x hx e2
   unfold plainS
   rw [f1, f2, decide_eq_true hb]
   rfl
  ·rw [right_big (.inl (by simp; omega)), decide_eq_false hb]
 have r2 : rule_Right.f 4 [(47 : UInt8), 97] ([(47 : UInt8)] ++ List.replicate k 97) 0 0 = some (decide (k + 1 ≤ 64)) := by
  by_cases hb : k + 1 ≤ 256
  ·rw [right_4 (by simp) (by simp; omega)]
   have f1 : pathS [(47 : UInt8), 97] = true := by decide
   have f2 : pathS ([(47 : UInt8)] ++ List.replicate k 97) = true := by
    show (starts 47 ((47 : UInt8) :: List.replicate k 97) && signsGo innerSigns true ((47 : UInt8) :: List.replicate k 97)) = true
    rw [signsGo_cons, if_pos (by decide), signs_a]
    rfl
   have f3 : decide (([(47 : UInt8)] ++ List.replicate k 97).length ≤ 64) = decide (k + 1 ≤ 64) := by simp [Nat.add_comm]
   rw [f1, f2, f3]
   have f4 : aloneS 9 [(47 : UInt8), 97] ([(47 : UInt8)] ++ List.replicate k 97) 0 0 = true := rfl
   rw [f4]
   simp
  ·rw [right_big (.inr (by simp; omega)), decide_eq_false (by omega)]
 have r3 : rule_Right.f 5 (List.replicate k 97) [(117 : UInt8), 58, 112] 0 0 = some (decide (1 ≤ k) && decide (k ≤ 64)) := by
  by_cases hb : k ≤ 256
  ·rw [right_5 (by simp; omega) (by simp)]
   have f1 : wordS (List.replicate k 97) = (decide (1 ≤ k) && decide (k ≤ 64)) := by
    unfold wordS
    rw [all_a (by decide), hlen]
    have : (!(List.replicate k (97 : UInt8) == [])) = decide (1 ≤ k) := by
     cases k with
     | zero => rfl
     | succ k => rfl
    rw [this]
    simp
   rw [f1]
   have f4 : aloneS 9 (List.replicate k 97) [(117 : UInt8), 58, 112] 0 0 = true := rfl
   have f5 : [(117 : UInt8), 58, 112].all isVis = true := by decide
   have f6 : [(117 : UInt8), 58, 112].contains 58 = true := by decide
   rw [f4, f5, f6]
   simp
  ·rw [right_big (.inl (by simp; omega)), decide_eq_false (show ¬ k ≤ 64 by omega)]; simp
 have r4 : rule_Right.f 12 [] (List.replicate k 97) 200 0 = some (decide (k ≤ 256)) := by
  by_cases hb : k ≤ 256
  ·rw [right_12 (by simp) (by simp; omega), all_a (by decide)]
   have f4 : aloneS 10 [] (List.replicate k 97) 200 0 = true := rfl
   rw [f4, decide_eq_true hb]
   rfl
  ·rw [right_big (.inr (by simp; omega)), decide_eq_false hb]
 rw [r1, r2, r3, r4]
 have ck : (([(65 : UInt8)].length + k : Nat) : Int) ≤ 9223372036854775807 := by simp; omega
 have ck' : (([(47 : UInt8)].length + k : Nat) : Int) ≤ 9223372036854775807 := by simp; omega
 cases ((Int.ofNat kind.toNat).tmod (4 : Int) == (0 : Int))
 ·cases ((Int.ofNat kind.toNat).tmod (4 : Int) == (1 : Int))
  ·cases ((Int.ofNat kind.toNat).tmod (4 : Int) == (2 : Int))
   ·rw [vfalse]
    simp [Tr.val]
   ·by_cases hk1 : 1 ≤ k
    ·simp [Tr.val, hk1]
    ·simp [Tr.val, hk1]
  ·rw [vfalse, vtrue, Tr.val_chk ck', Tr.val_call rfl]
   simp [Tr.val]
 ·rw [vtrue, Tr.val_chk ck, Tr.val_call rfl]
  simp [Tr.val]
end Pl
end Go.Vx
end
