/- Printed by a program of ours out of our texts: the evaluator, the printed functions, the plain laws. (A help: no statement of the seat is proved here.) -/
import Derived.Test.YtbaaoanhglemaaaGreatDoorPReplyTellsD
import Derived.Lib.Bytealg
section
set_option linter.unusedVariables false
set_option linter.unusedSimpArgs false
namespace Go.Vx
theorem w64 {n : Int} (h0 : -9223372036854775808 ≤ n) (h1 : n < 9223372036854775808) : IntKind.i64.wrap n = n := by
 simp only [IntKind.wrap, IntKind.signed, IntKind.bits, if_true]
 simp
 omega
theorem wS {k : Nat} (h : k < 4611686018427387904) : IntKind.i64.wrap ((k : Int) + 1) = ((k + 1 : Nat) : Int) := by rw [w64 (by omega) (by omega)]; omega
theorem byte_is (c d : UInt8) : ((c.toNat : Int) == (d.toNat : Int)) = (c == d) := by
 by_cases h : c = d
 ·subst h; simp
 ·have : ¬ c.toNat = d.toNat := fun e => h (UInt8.toNat_inj.1 e)
  have h1 : (c == d) = false := by simpa using h
  rw [h1]
  exact beq_false_of_ne (by omega)
theorem in_rng {k n : Nat} (h : k < n) : (0 : Int) ≤ (k : Int) ∧ (k : Int) < (n : Int) := by omega
theorem Tr.val_chk {α : Type} {p : Prop} [Decidable p] {a : Tr α} (h : p) : (Tr.chk p a).val = a.val := if_pos h
theorem Tr.val_call {α β : Type} {o : Option β} {k : β → Tr α} {y : β} (h : o = some y) : (Tr.call o k).val = (k y).val := by subst h; rfl
theorem Tr.val_inl {α β γ : Type} {o : Option (β ⊕ γ)} {k : β → Tr α} {l : γ → Tr α} {y : β} (h : o = some (.inl y)) : (Tr.both o k l).val = (k y).val := by subst h; rfl
def foldE {α A ρ : Type} (step : A → α → A ⊕ ρ) (fin : A → ρ) : A → List α → ρ
 | a, [] => fin a
 | a, c :: l => match step a c with
  | .inl a' => foldE step fin a' l
  | .inr r => r
theorem iter_list {α A σ ρ : Type} {body : σ → Tr (σ ⊕ ρ)} (s : List α) (st : Nat → A → σ) (inv : Nat → A → Prop) (step : A → α → A ⊕ ρ) (fin : A → ρ)
  (hs : ∀ (k : Nat) (a : A) (c : α), inv k a → (hk : k < s.length) → s[k]'hk = c → (body (st k a)).val = some (match step a c with
   | .inl a' => .inl (st (k + 1) a')
   | .inr r => .inr r) ∧ ∀ a', step a c = .inl a' → inv (k + 1) a')
  (he : ∀ a, inv s.length a → (body (st s.length a)).val = some (.inr (fin a))) :
  ∀ (n k : Nat) (a : A), inv k a → k ≤ s.length → s.length - k < n → iter body n (st k a) = some (foldE step fin a (s.drop k)) := by
 intro n
 induction n with
 | zero => intro k a _ _ h; omega
 | succ n ih =>
  intro k a hi hk hn
  rw [iter]
  by_cases hl : k < s.length
  ·obtain ⟨h1, h2⟩ := hs k a _ hi hl rfl
   rw [h1, List.drop_eq_getElem_cons hl, foldE]
   cases e : step a s[k] with
   | inr r => rfl
   | inl a' => exact ih (k + 1) a' (h2 a' e) (by omega) (by omega)
  ·have hkl : k = s.length := by omega
   subst hkl
   rw [he a hi, List.drop_length, foldE]
theorem Loop_list {α A σ ρ : Type} {body : σ → Tr (σ ⊕ ρ)} (s : List α) (st : Nat → A → σ) (inv : Nat → A → Prop) (step : A → α → A ⊕ ρ) (fin : A → ρ)
  (hs : ∀ (k : Nat) (a : A) (c : α), inv k a → (hk : k < s.length) → s[k]'hk = c → (body (st k a)).val = some (match step a c with
   | .inl a' => .inl (st (k + 1) a')
   | .inr r => .inr r) ∧ ∀ a', step a c = .inl a' → inv (k + 1) a')
  (he : ∀ a, inv s.length a → (body (st s.length a)).val = some (.inr (fin a))) (hn : s.length < 1125899906842624) {a : A} (hi : inv 0 a) {s0 : σ} (h0 : s0 = st 0 a) : Loop body s0 = some (foldE step fin a s) := by
 subst h0
 have := iter_list s st inv step fin hs he rounds 0 a hi (Nat.zero_le _) (by unfold rounds; omega)
 rw [List.drop_zero] at this
 exact this
theorem getD_nat {α : Type} {s : List α} {k : Nat} {c : α} {d : α} (hk : k < s.length) (hc : s[k]'hk = c) : s.getD k d = c := by
 rw [List.getD_eq_getElem?_getD, List.getElem?_eq_getElem hk, hc]; rfl
theorem getD_at {α : Type} {s : List α} {k : Nat} {c : α} {d : α} (hk : k < s.length) (hc : s[k]'hk = c) : s.getD (k : Int).toNat d = c := by
 rw [Int.toNat_natCast, List.getD_eq_getElem?_getD, List.getElem?_eq_getElem hk, hc]; rfl
end Go.Vx
end
section
set_option linter.unusedVariables false
set_option linter.unusedSimpArgs false
set_option maxRecDepth 100000
namespace Go.Vx
namespace Pl
theorem all256 {p : UInt8 → Bool} (h : ((List.range 256).all fun n => p (UInt8.ofNat n)) = true) (c : UInt8) : p c = true := by
 have := List.all_eq_true.1 h c.toNat (List.mem_range.2 (UInt8.toNat_lt c))
 simpa using this
theorem byte_fn {α : Type} [DecidableEq α] {f : Int → Option α} {g : UInt8 → α} (h : ((List.range 256).all fun n => decide (f (((UInt8.ofNat n).toNat : Nat) : Int) = some (g (UInt8.ofNat n)))) = true) (c : UInt8) : f (c.toNat : Int) = some (g c) :=
 of_decide_eq_true (all256 (p := fun c => decide (f (c.toNat : Int) = some (g c))) h c)
def isLetter (c : UInt8) : Bool := (decide (97 ≤ c) && decide (c ≤ 122)) || (decide (65 ≤ c) && decide (c ≤ 90))
def isDigit (c : UInt8) : Bool := decide (48 ≤ c) && decide (c ≤ 57)
def isTok (c : UInt8) : Bool := isLetter c || isDigit c || [33, 35, 36, 37, 38, 39, 42, 43, 45, 46, 94, 95, 96, 124, 126].contains c
def isVis (c : UInt8) : Bool := decide (33 ≤ c) && decide (c ≤ 126)
def isBlank (c : UInt8) : Bool := c == 32 || c == 9
def isText (c : UInt8) : Bool := isVis c || isBlank c || decide (128 ≤ c)
def isHex (c : UInt8) : Bool := isDigit c || (decide (97 ≤ c) && decide (c ≤ 102)) || (decide (65 ≤ c) && decide (c ≤ 70))
def hexv (c : UInt8) : Nat := if isDigit c then c.toNat - 48 else if decide (97 ≤ c) && decide (c ≤ 102) then c.toNat - 87 else if decide (65 ≤ c) && decide (c ≤ 70) then c.toNat - 55 else 0
def lowerC (c : UInt8) : UInt8 := if decide (65 ≤ c) && decide (c ≤ 90) then c + 32 else c
def isKind (k : Int) (c : UInt8) : Bool := if k = 1 then isTok c else if k = 2 then isVis c else if k = 3 then isBlank c else if k = 4 then isDigit c else if k = 5 then isHex c else if k = 6 then isText c else false
def scan {α ρ : Type} (step : Nat → α → Option ρ) (fin : ρ) : Nat → List α → ρ
 | _, [] => fin
 | k, c :: l => match step k c with
  | none => scan step fin (k + 1) l
  | some r => r
theorem scan_foldE {α ρ : Type} (step : Nat → α → Option ρ) (fin : ρ) : ∀ (l : List α) (k : Nat), foldE (fun (a : Nat) c => match step a c with
  | none => .inl (a + 1)
  | some r => .inr r) (fun _ => fin) k l = scan step fin k l
 | [], _ => rfl
 | c :: l, k => by
  rw [foldE, scan]
  cases step k c with
  | none => exact scan_foldE step fin l (k + 1)
  | some r => rfl
theorem Loop_scan {α ρ : Type} {body : Int → Tr (Int ⊕ ρ)} (s : List α) (step : Nat → α → Option ρ) (fin : ρ)
  (hs : ∀ (k : Nat) (c : α), (hk : k < s.length) → s[k]'hk = c → (body (k : Int)).val = some (match step k c with
   | none => .inl ((k + 1 : Nat) : Int)
   | some r => .inr r)) (he : (body (s.length : Int)).val = some (.inr fin)) (hn : s.length < 1125899906842624) : Loop body 0 = some (scan step fin 0 s) := by
 rw [← scan_foldE]
 refine Loop_list s (fun k _ => (k : Int)) (fun k a => a = k) (fun a c => match step a c with
  | none => .inl (a + 1)
  | some r => .inr r) (fun _ => fin) (fun k a c hi hk hc => ?_) (fun a _ => he) hn rfl rfl
 subst hi
 rw [hs a c hk hc]
 cases step a c with
 | none => exact ⟨rfl, fun a' h => by cases h; rfl⟩
 | some r => exact ⟨rfl, fun a' h => by cases h⟩
theorem scan_all {α : Type} (p : α → Bool) : ∀ (l : List α) (k : Nat), scan (fun _ c => if p c = true then none else some (Sum.inr false : Unit ⊕ Bool)) (.inl ()) k l = if l.all p = true then .inl () else .inr false
 | [], _ => rfl
 | c :: l, k => by
  rw [scan]
  by_cases h : p c = true
  ·simp only [h, if_true, scan_all p l (k + 1), List.all_cons, Bool.true_and]
  ·simp only [h, List.all_cons]; rfl
theorem scan_any {α : Type} (p : α → Bool) : ∀ (l : List α) (k : Nat), scan (fun _ c => if p c = true then some (Sum.inr true : Unit ⊕ Bool) else none) (.inl ()) k l = if l.any p = true then .inr true else .inl ()
 | [], _ => rfl
 | c :: l, k => by
  rw [scan]
  by_cases h : p c = true
  ·simp only [h, List.any_cons, Bool.true_or, if_true]
  ·simp only [h, List.any_cons, Bool.false_or]; simpa using scan_any p l (k + 1)
theorem bif_ite {α : Type} (c : Bool) (a b : α) : (bif c then a else b) = if c = true then a else b := by cases c <;> rfl
theorem lt_nat {k n : Nat} : decide ((k : Int) < (n : Int)) = decide (k < n) := by simp
end Pl
end Go.Vx
end
section
set_option linter.unusedVariables false
set_option linter.unusedSimpArgs false
set_option maxRecDepth 100000
namespace Go.Vx
namespace Pl
open Go
theorem Loop_front {α : Type} {t : List α → Tr (List α ⊕ List α)} {p : α → Bool} {s : List α} (h0 : (t []).val = some (.inr [])) (hs : ∀ c l, l.length < s.length → (t (c :: l)).val = some (if p c = true then .inl l else .inr (c :: l))) (hn : s.length < 1125899906842624) : Loop t s = some (s.dropWhile p) := by
 have : ∀ (n : Nat) (z : List α), z.length < n → z.length ≤ s.length → iter t n z = some (z.dropWhile p) := by
  intro n
  induction n with
  | zero => intro z h; omega
  | succ n ih =>
   intro z h hz
   cases z with
   | nil => rw [iter, h0]; rfl
   | cons c l =>
    rw [iter, hs c l (by simp at hz; omega)]
    by_cases hc : p c = true
    ·simp only [hc, if_true, List.dropWhile_cons_of_pos]
     exact ih l (by simp at h; omega) (by simp at hz; omega)
    ·simp [hc, List.dropWhile_cons_of_neg]
 exact this rounds s (by unfold rounds; omega) (Nat.le_refl _)
def dropEnd {α : Type} (p : α → Bool) (l : List α) : List α := (l.reverse.dropWhile p).reverse
theorem dropEnd_snoc {α : Type} {p : α → Bool} (l : List α) (c : α) : dropEnd p (l ++ [c]) = if p c = true then dropEnd p l else l ++ [c] := by
 unfold dropEnd
 by_cases h : p c = true
 ·simp [h]
 ·simp [h]
theorem dropEnd_length {α : Type} {p : α → Bool} (l : List α) : (dropEnd p l).length ≤ l.length := by
 unfold dropEnd
 have := (List.dropWhile_sublist p (l := l.reverse)).length_le
 simpa using this
theorem Loop_end {α : Type} {t : List α → Tr (List α ⊕ List α)} {p : α → Bool} {s : List α} (h0 : (t []).val = some (.inr [])) (hs : ∀ l c, l.length < s.length → (t (l ++ [c])).val = some (if p c = true then .inl l else .inr (l ++ [c]))) (hn : s.length < 1125899906842624) : Loop t s = some (dropEnd p s) := by
 have : ∀ (n : Nat) (z : List α), z.length < n → z.length ≤ s.length → iter t n z = some (dropEnd p z) := by
  intro n
  induction n with
  | zero => intro z h; omega
  | succ n ih =>
   intro z h hz
   rcases List.eq_nil_or_concat z with rfl | ⟨l, c, rfl⟩
   ·rw [iter, h0]; rfl
   ·simp only [List.concat_eq_append, List.length_append, List.length_cons, List.length_nil] at h hz ⊢
    rw [iter, hs l c (by omega), dropEnd_snoc]
    by_cases hc : p c = true
    ·simp only [hc, if_true]
     exact ih l (by omega) (by omega)
    ·simp [hc]
 exact this rounds s (by unfold rounds; omega) (Nat.le_refl _)
def lower (s : List UInt8) : List UInt8 := s.map lowerC
def same (a b : List UInt8) : Bool := lower a == lower b
def trimP (p : UInt8 → Bool) (s : List UInt8) : List UInt8 := dropEnd p (s.dropWhile p)
def trim (s : List UInt8) : List UInt8 := trimP isBlank s
theorem trimP_length (p : UInt8 → Bool) (s : List UInt8) : (trimP p s).length ≤ s.length := by
 unfold trimP
 have h1 := dropEnd_length (p := p) (s.dropWhile p)
 have h2 := (List.dropWhile_sublist p (l := s)).length_le
 omega
def before (c : UInt8) (s : List UInt8) : List UInt8 := s.takeWhile (· != c)
def after (c : UInt8) (s : List UInt8) : List UInt8 := (s.dropWhile (· != c)).drop 1
def cutC (c : UInt8) (s : List UInt8) : List UInt8 × List UInt8 × Bool := if s.contains c = true then (before c s, after c s, true) else (s, [], false)
def splitC (c : UInt8) : List UInt8 → List (List UInt8)
 | [] => [[]]
 | x :: l => if x == c then [] :: splitC c l else match splitC c l with
  | a :: r => (x :: a) :: r
  | [] => [[x]]
def listS (values : List (List UInt8)) : List (List UInt8) := values.flatMap fun v => (splitC 44 v).map trim
def findS (l : List (List UInt8 × List UInt8)) (name : List UInt8) : List (List UInt8) := (l.filter fun f => same f.1 name).map (·.2)
theorem indexByte_not {c : UInt8} : ∀ {s : List UInt8}, s.contains c = false → Lib.indexByte s c = -1
 | [], _ => rfl
 | x :: l, h => by
  simp only [List.contains_cons, Bool.or_eq_false_iff] at h
  have hx : (x == c) = false := by
   have := h.1
   simp only [beq_eq_false_iff_ne] at this ⊢
   exact fun e => this e.symm
  unfold Lib.indexByte
  rw [indexByte_not h.2, hx]
  simp
theorem indexByte_is {c : UInt8} : ∀ {s : List UInt8}, s.contains c = true → Lib.indexByte s c = ((before c s).length : Int)
 | [], h => by simp at h
 | x :: l, h => by
  unfold Lib.indexByte before
  by_cases hx : x = c
  ·subst hx; simp
  ·have h1 : (x == c) = false := by simpa using hx
   have h2 : l.contains c = true := by
    simp only [List.contains_cons, Bool.or_eq_true, beq_iff_eq] at h
    rcases h with h | h
    ·exact absurd h.symm hx
    ·exact h
   have ih := indexByte_is h2
   have h3 : (x != c) = true := by simp [bne, h1]
   rw [h1]
   simp only [List.takeWhile_cons, h3, if_true, List.length_cons]
   rw [ih]
   have h4 : (((before c l).length : Int) == -1) = false := by
    rw [beq_eq_false_iff_ne]; omega
   simp only [h4]
   simp [before]
theorem before_after {c : UInt8} : ∀ {s : List UInt8}, s.contains c = true → s = before c s ++ c :: after c s
 | [], h => by simp at h
 | x :: l, h => by
  unfold before after
  by_cases hx : x = c
  ·subst hx; simp
  ·have h1 : (x != c) = true := by simpa using hx
   have h2 : l.contains c = true := by
    simp only [List.contains_cons, Bool.or_eq_true, beq_iff_eq] at h
    rcases h with h | h
    ·exact absurd h.symm hx
    ·exact h
   have ih := before_after h2
   simp only [List.takeWhile_cons, List.dropWhile_cons, h1, if_true, List.cons_append]
   congr 1
theorem take_before {c : UInt8} {s : List UInt8} (h : s.contains c = true) : s.take (before c s).length = before c s := by
 refine (congrArg (List.take (before c s).length) (before_after h)).trans ?_
 simp
theorem drop_after {c : UInt8} {s : List UInt8} (h : s.contains c = true) : s.drop ((before c s).length + 1) = after c s := by
 refine (congrArg (List.drop ((before c s).length + 1)) (before_after h)).trans ?_
 simp
theorem before_len {c : UInt8} {s : List UInt8} (h : s.contains c = true) : (before c s).length + 1 + (after c s).length = s.length := by
 have := congrArg List.length (before_after h)
 simp at this
 omega
theorem splitC_not {c : UInt8} : ∀ {s : List UInt8}, s.contains c = false → splitC c s = [s]
 | [], _ => rfl
 | x :: l, h => by
  simp only [List.contains_cons, Bool.or_eq_false_iff] at h
  have hx : (x == c) = false := by
   have := h.1
   simp only [beq_eq_false_iff_ne] at this ⊢
   exact fun e => this e.symm
  simp only [splitC, hx, splitC_not h.2]
  rfl
theorem splitC_is {c : UInt8} : ∀ {s : List UInt8}, s.contains c = true → splitC c s = before c s :: splitC c (after c s)
 | [], h => by simp at h
 | x :: l, h => by
  unfold before after
  by_cases hx : x = c
  ·subst hx; simp [splitC]
  ·have h0 : (x == c) = false := by simpa using hx
   have h1 : (x != c) = true := by simpa using hx
   have h2 : l.contains c = true := by
    simp only [List.contains_cons, Bool.or_eq_true, beq_iff_eq] at h
    rcases h with h | h
    ·exact absurd h.symm hx
    ·exact h
   simp only [splitC, h0, splitC_is h2, List.takeWhile_cons, List.dropWhile_cons, h1, if_true]
   rfl
theorem splitC_len (c : UInt8) : ∀ (n : Nat) (s : List UInt8), s.length ≤ n → (splitC c s).length = s.count c + 1
 | 0, s, h => by
  have : s = [] := List.length_eq_zero_iff.1 (by omega)
  subst this; rfl
 | n + 1, s, h => by
  by_cases hc : s.contains c = true
  ·have hl := before_len hc
   rw [splitC_is hc, List.length_cons, splitC_len c n (after c s) (by omega)]
   have h1 := congrArg (List.count c) (before_after hc)
   rw [List.count_append, List.count_cons_self] at h1
   have : (before c s).count c = 0 := by
    rw [List.count_eq_zero]
    unfold before
    intro hm
    have h2 : ∀ (l : List UInt8), c ∈ l.takeWhile (· != c) → False := by
     intro l
     induction l with
     | nil => intro h; simp at h
     | cons x l ih =>
      intro h
      rw [List.takeWhile_cons] at h
      split at h
      ·rename_i hx
       rcases List.mem_cons.1 h with rfl | h
       ·simp at hx
       ·exact ih h
      ·simp at h
    exact h2 _ hm
   omega
  ·rw [splitC_not (by simpa using hc)]
   have : s.count c = 0 := by
    rw [List.count_eq_zero]
    simpa using hc
   simp [this]
end Pl
end Go.Vx
end
section
set_option linter.unusedVariables false
set_option linter.unusedSimpArgs false
set_option maxRecDepth 100000
namespace Go.Vx
namespace Pl
open Go Go.Proofs
theorem octet_Digit_f (c : UInt8) : octet_Digit.f (c.toNat : Int) = some (isDigit c) := byte_fn (f := octet_Digit.f) (g := fun c => (isDigit c)) (by decide +kernel) c
theorem octet_Token_f (c : UInt8) : octet_Token.f (c.toNat : Int) = some (isTok c) := byte_fn (f := octet_Token.f) (g := fun c => (isTok c)) (by decide +kernel) c
theorem octet_Visible_f (c : UInt8) : octet_Visible.f (c.toNat : Int) = some (isVis c) := byte_fn (f := octet_Visible.f) (g := fun c => (isVis c)) (by decide +kernel) c
theorem octet_Blank_f (c : UInt8) : octet_Blank.f (c.toNat : Int) = some (isBlank c) := byte_fn (f := octet_Blank.f) (g := fun c => (isBlank c)) (by decide +kernel) c
theorem octet_Text_f (c : UInt8) : octet_Text.f (c.toNat : Int) = some (isText c) := byte_fn (f := octet_Text.f) (g := fun c => (isText c)) (by decide +kernel) c
theorem octet_Hex_f (c : UInt8) : octet_Hex.f (c.toNat : Int) = some ((hexv c : Int), isHex c) := byte_fn (f := octet_Hex.f) (g := fun c => ((hexv c : Int), isHex c)) (by decide +kernel) c
theorem octet_of_f (c : UInt8) (k : Int) : octet_of.f (c.toNat : Int) k = some (isKind k c) := by
 unfold octet_of.f octet_of.t isKind
 rw [octet_Token_f, octet_Visible_f, octet_Blank_f, octet_Digit_f, octet_Hex_f, octet_Text_f]
 simp only [Tr.val, bif_ite, beq_iff_eq]
 split <;> (try rfl) <;> split <;> (try rfl) <;> split <;> (try rfl) <;> split <;> (try rfl) <;> split <;> (try rfl) <;> split <;> rfl
theorem octet_All_L6 {kinds : List Int} {s : List UInt8} {i : Nat} {c : UInt8} (hi : i < s.length) (hc : s[i]'hi = c) (hn : kinds.length < 1125899906842624) : octet_All.L6.f kinds s (i : Int) false (kinds.length : Int) 0 = some (kinds.any fun k => isKind k c) := by
 unfold octet_All.L6.f
 refine (Loop_list (A := Bool) (ρ := Bool) (a := false) kinds (fun k a => (a, (k : Int))) (fun _ _ => True) (fun a k => .inl (a || isKind k c)) id ?_ ?_ hn trivial rfl).trans ?_
 ·intro k a kd _ hk hkc
  refine ⟨?_, fun _ _ => trivial⟩
  have hw := wS (k := k) (by omega)
  subst hkc hc
  cases a <;> simp [octet_All.L6.t, Tr.val, octet_of_f, in_rng hk, hw, hk, in_rng hi, hi]
 ·intro a _
  simp [octet_All.L6.t, Tr.val]
 ·congr 1
  have : ∀ (l : List Int) (a : Bool), foldE (fun a k => (Sum.inl (a || isKind k c) : Bool ⊕ Bool)) id a l = (a || l.any fun k => isKind k c) := by
   intro l
   induction l with
   | nil => intro a; simp [foldE]
   | cons k l ih => intro a; simp [foldE, ih, Bool.or_assoc]
  simpa using this kinds false
theorem octet_All_f {kinds : List Int} {s : List UInt8} (hk : kinds.length < 1125899906842624) (hn : s.length < 1125899906842624) : octet_All.f kinds s = some (s.all fun c => kinds.any fun k => isKind k c) := by
 have hL : octet_All.L2.f kinds s (s.length : Int) 0 = some (if (s.all fun c => kinds.any fun k => isKind k c) = true then .inl () else .inr false) := by
  unfold octet_All.L2.f
  refine (Loop_scan s (fun _ c => if (kinds.any fun k => isKind k c) = true then none else some (Sum.inr false : Unit ⊕ Bool)) (.inl ()) (fun k c hl hc => ?_) ?_ hn).trans (by rw [scan_all])
  ·have hw := wS (k := k) (by omega)
   by_cases h : (kinds.any fun k => isKind k c) = true
   ·simp [octet_All.L2.t, Tr.val, octet_All_L6 hl hc hk, h, hw, hl]
   ·have h' : (kinds.any fun k => isKind k c) = false := by simpa using h
    simp [octet_All.L2.t, Tr.val, octet_All_L6 hl hc hk, h', hw, hl]
  ·simp [octet_All.L2.t, Tr.val]
 unfold octet_All.f octet_All.t
 rw [hL]
 cases (s.all fun c => kinds.any fun k => isKind k c) <;> simp [Tr.val]
theorem kind1 (s : List UInt8) (k : Int) : (s.all fun c => [k].any fun k => isKind k c) = s.all (isKind k) := by
 congr 1; funext c; simp
theorem octet_All1 {k : Int} {s : List UInt8} (hn : s.length < 1125899906842624) : octet_All.f [k] s = some (s.all (isKind k)) := by
 rw [octet_All_f (by simp) hn, kind1]
theorem trim_front {s : List UInt8} (hn : s.length < 1125899906842624) : text_trimmed_f_octet_Blank.L1.f s = some (s.dropWhile isBlank) := by
 unfold text_trimmed_f_octet_Blank.L1.f
 refine Loop_front (p := isBlank) ?_ ?_ hn
 ·simp [text_trimmed_f_octet_Blank.L1.t, Tr.val]
 ·intro c l _
  cases h : isBlank c <;> simp [text_trimmed_f_octet_Blank.L1.t, Tr.val, octet_Blank_f, h] <;> omega
theorem snoc_wrap {l : List UInt8} {c : UInt8} (hn : l.length < 1125899906842624) : IntKind.i64.wrap (((l ++ [c]).length : Int) - 1) = (l.length : Int) := by
 rw [List.length_append]
 simp only [List.length_cons, List.length_nil]
 rw [w64 (by omega) (by omega)]
 omega
theorem trim_end {s : List UInt8} (hn : s.length < 1125899906842624) : text_trimmed_f_octet_Blank.L3.f s = some (dropEnd isBlank s) := by
 unfold text_trimmed_f_octet_Blank.L3.f
 refine Loop_end (p := isBlank) ?_ ?_ hn
 ·simp [text_trimmed_f_octet_Blank.L3.t, Tr.val]
 ·intro l c hl
  have h1 := snoc_wrap (l := l) (c := c) (by omega)
  have h2 : ((l ++ [c]) == []) = false := by simp
  have h3 : (l ++ [c]).getD l.length 0 = c := by simp
  unfold text_trimmed_f_octet_Blank.L3.t
  rw [h1]
  simp only [Tr.val, h2, Int.toNat_natCast, h3, octet_Blank_f]
  cases h : isBlank c <;> simp <;> omega
theorem text_Trim_f {s : List UInt8} (hn : s.length < 1125899906842624) : text_Trim.f s = some (trim s) := by
 unfold text_Trim.f text_Trim.t text_trimmed_f_octet_Blank.f text_trimmed_f_octet_Blank.t trim trimP
 rw [trim_front hn]
 have := (List.dropWhile_sublist isBlank (l := s)).length_le
 simp only [Tr.val, trim_end (s := List.dropWhile isBlank s) (by omega)]
theorem lower_set {s : List UInt8} {k : Nat} (hk : k < s.length) (b : UInt8) : ((s.take k).map lowerC ++ s.drop k).set k b = (s.take k).map lowerC ++ b :: s.drop (k + 1) := by
 rw [List.set_append_right _ _ (by simp; omega)]
 have e : k - ((s.take k).map lowerC).length = 0 := by simp; omega
 rw [e, List.drop_eq_getElem_cons hk]
 rfl
theorem lower_next {s : List UInt8} {k : Nat} (hk : k < s.length) : (s.take (k + 1)).map lowerC ++ s.drop (k + 1) = (s.take k).map lowerC ++ lowerC s[k] :: s.drop (k + 1) := by
 rw [List.take_add_one, List.getElem?_eq_getElem hk, List.map_append, List.append_assoc]
 rfl
theorem lower_at {s : List UInt8} {k : Nat} (hk : k < s.length) : ((s.take k).map lowerC ++ s.drop k).getD k 0 = s[k] := by
 rw [List.getD_eq_getElem?_getD, List.getElem?_append_right (by simp; omega)]
 simp [Nat.min_eq_left (Nat.le_of_lt hk), hk]
theorem lower_len {s : List UInt8} {k : Nat} (hk : k ≤ s.length) : ((s.take k).map lowerC ++ s.drop k).length = s.length := by
 simp; omega
theorem lower_byte (c : UInt8) (h1 : (c.toNat : Int) ≥ 65) (h2 : (c.toNat : Int) ≤ 90) : IntKind.u8.wrap (IntKind.u8.wrap ((c.toNat : Int) + 97) - 65) = ((c.toNat + 32 : Nat) : Int) ∧ UInt8.ofNat (c.toNat + 32) = lowerC c := by
 have := all256 (p := fun c => !(decide ((c.toNat : Int) ≥ 65) && decide ((c.toNat : Int) ≤ 90)) || (decide (IntKind.u8.wrap (IntKind.u8.wrap ((c.toNat : Int) + 97) - 65) = ((c.toNat + 32 : Nat) : Int)) && (UInt8.ofNat (c.toNat + 32) == lowerC c))) (by decide +kernel) c
 simpa [h1, h2] using this
theorem lower_not (c : UInt8) (h : ¬ ((c.toNat : Int) ≥ 65 ∧ (c.toNat : Int) ≤ 90)) : lowerC c = c := by
 have := all256 (p := fun c => (decide ((c.toNat : Int) ≥ 65) && decide ((c.toNat : Int) ≤ 90)) || (lowerC c == c)) (by decide +kernel) c
 simpa [h] using this
theorem text_Lower_f {s : List UInt8} (hn : s.length < 140737488355328) : text_Lower.f s = some (lower s) := by
 have hL : text_Lower.L3.f s (s.length : Int) 0 = some (lower s) := by
  unfold text_Lower.L3.f
  refine (Loop_list (A := Unit) (a := ()) s (fun k _ => ((s.take k).map lowerC ++ s.drop k, (k : Int))) (fun _ _ => True) (fun _ _ => .inl ()) (fun _ => lower s) ?_ ?_ (by omega) trivial (by simp)).trans ?_
  ·intro k a c _ hk hc
   refine ⟨?_, fun _ _ => trivial⟩
   subst hc
   have hw := wS (k := k) (by omega)
   have ha := lower_at hk
   have hl := lower_len (Nat.le_of_lt hk)
   unfold text_Lower.L3.t
   simp only [Int.toNat_natCast, Nat.zero_add, ha, hl, lt_nat, decide_eq_true hk, hw, lower_next hk]
   by_cases h1 : (s[k].toNat : Int) ≥ 65
   ·by_cases h2 : (s[k].toNat : Int) ≤ 90
    ·obtain ⟨q1, q2⟩ := lower_byte s[k] h1 h2
     rw [q1]
     simp only [Tr.val, h1, h2, decide_true, cond_true, Int.toNat_natCast, q2, lower_set hk, List.length_set, hl]
     simp [hk]
     omega
    ·have := lower_not s[k] (fun h => h2 h.2)
     simp only [Tr.val, h1, h2, decide_true, decide_false, cond_true, cond_false, this]
     simp [hk]
   ·have := lower_not s[k] (fun h => h1 h.1)
    simp only [Tr.val, h1, decide_true, decide_false, cond_true, cond_false, this]
    simp [hk]
  ·intro a _
   simp [text_Lower.L3.t, Tr.val, lower]
  ·have : ∀ (l : List UInt8), foldE (fun (_ : Unit) (_ : UInt8) => (Sum.inl () : Unit ⊕ List UInt8)) (fun _ => lower s) () l = lower s := by
    intro l
    induction l with
    | nil => rfl
    | cons c l ih => exact ih
   rw [this]
 unfold text_Lower.f text_Lower.t
 rw [List.nil_append, hL]
 simp [Tr.val]
 omega
theorem text_Same_f {a b : List UInt8} (ha : a.length < 140737488355328) (hb : b.length < 140737488355328) : text_Same.f a b = some (same a b) := by
 unfold text_Same.f text_Same.t
 rw [text_Lower_f ha, text_Lower_f hb]
 rfl
theorem indexByte_cases (c : UInt8) (s : List UInt8) : Lib.indexByte s c = if s.contains c = true then ((before c s).length : Int) else -1 := by
 by_cases h : s.contains c = true
 ·rw [if_pos h, indexByte_is h]
 ·rw [if_neg h, indexByte_not (by simpa using h)]
theorem take_all {α : Type} (l : List α) : List.take l.length (List.drop 0 l) = l := by simp
theorem slite_f (s : List UInt8) (c : UInt8) : slite_IndexByte.f s (c.toNat : Int) = some (if s.contains c = true then ((before c s).length : Int) else -1) := by
 unfold slite_IndexByte.f
 have : ((c.toNat : Int)).toNat.toUInt8 = c := by simp
 rw [this, indexByte_cases]
theorem before_one {c : UInt8} {s : List UInt8} (h : [c] = s) : s.contains c = true ∧ (before c s).length = 0 := by
 subst h; simp [before]
theorem index3a_f (s : List UInt8) : internal_stringslite_Index_sx3a.f s = some (if s.contains 58 = true then ((before 58 s).length : Int) else -1) := by
 unfold internal_stringslite_Index_sx3a.f internal_stringslite_Index_sx3a.t
 rw [show (58 : Int) = ((58 : UInt8).toNat : Int) from rfl, slite_f]
 by_cases h : [(58 : UInt8)] = s
 ·have := before_one h
  simp only [Tr.val, beq_iff_eq.2 h, cond_true, this.1, this.2, if_true]
  rfl
 ·simp [Tr.val, beq_eq_false_iff_ne.2 h]
def cutT (idx : Option Int) (s : List UInt8) : Tr (List UInt8 × List UInt8 × Bool) :=
 .call idx fun y1 =>
 .br (decide (y1 ≥ (0 : Int))) (.chk ((0 : Int) ≤ (0 : Int) ∧ (0 : Int) ≤ y1 ∧ y1 ≤ (↑s.length : Int)) <| .chk ((0 : Int) ≤ IntKind.i64.wrap (y1 + (1 : Int)) ∧ IntKind.i64.wrap (y1 + (1 : Int)) ≤ (↑s.length : Int) ∧ (↑s.length : Int) ≤ (↑s.length : Int)) <| .ret (List.drop (↑(0 : Nat) : Int).toNat (List.take y1.toNat s), List.drop (IntKind.i64.wrap (y1 + (1 : Int))).toNat (List.take (↑s.length : Int).toNat s), true))
 (.ret (s, [], false))
theorem cutT_f {c : UInt8} {s : List UInt8} (hn : s.length < 1125899906842624) : (cutT (some (if s.contains c = true then ((before c s).length : Int) else -1)) s).val = some (cutC c s) := by
 unfold cutC cutT
 by_cases h : s.contains c = true
 ·have hl := before_len h
  have hw := wS (k := (before c s).length) (by omega)
  simp only [if_pos h, Tr.val, hw, Int.toNat_natCast, take_before h]
  rw [if_pos (by omega), if_pos (by omega)]
  simp [drop_after h]
 ·simp only [if_neg h]
  simp [Tr.val]
theorem cut3a_f {s : List UInt8} (hn : s.length < 1125899906842624) : strings_Cut_sx3a.f s = some (cutC 58 s) := by
 have h1 : internal_stringslite_Cut_sx3a.f s = some (cutC 58 s) := by
  unfold internal_stringslite_Cut_sx3a.f
  show (cutT (internal_stringslite_Index_sx3a.f s) s).val = _
  rw [index3a_f, cutT_f hn]
 unfold strings_Cut_sx3a.f strings_Cut_sx3a.t
 rw [h1]; rfl
def gsT (idx : List UInt8 → Option Int) (va : List (List UInt8)) (s : List UInt8) (sepSave : Int) (n : Int) (i : Int) : Tr ((List (List UInt8) × List UInt8 × Int) ⊕ (List (List UInt8) × List UInt8 × Int)) :=
 .br (decide (i < n)) (.call (idx s) fun y1 =>
  .br (decide (y1 < (0 : Int))) (.ok ((0 : Nat) = (0 : Nat) ∧ va.length = va.length) ⟨rfl, rfl⟩ <| .ret (.inr (va, s, i)))
  (.chk ((0 : Int) ≤ (0 : Int) ∧ (0 : Int) ≤ IntKind.i64.wrap (y1 + sepSave) ∧ IntKind.i64.wrap (y1 + sepSave) ≤ (↑s.length : Int)) <| .chk ((0 : Int) ≤ i ∧ i < (↑va.length : Int)) <| .chk ((0 : Nat) + i.toNat < va.length) <| .chk ((0 : Int) ≤ IntKind.i64.wrap (y1 + (1 : Int)) ∧ IntKind.i64.wrap (y1 + (1 : Int)) ≤ (↑s.length : Int) ∧ (↑s.length : Int) ≤ (↑s.length : Int)) <| .chk ((0 : Nat) = (0 : Nat) ∧ va.length = (va.set ((0 : Nat) + i.toNat) (List.drop (↑(0 : Nat) : Int).toNat (List.take (IntKind.i64.wrap (y1 + sepSave)).toNat s))).length) <| .ret (.inl (va.set ((0 : Nat) + i.toNat) (List.drop (↑(0 : Nat) : Int).toNat (List.take (IntKind.i64.wrap (y1 + sepSave)).toNat s)), List.drop (IntKind.i64.wrap (y1 + (1 : Int))).toNat (List.take (↑s.length : Int).toNat s), IntKind.i64.wrap (i + (1 : Int))))))
 (.ok ((0 : Nat) = (0 : Nat) ∧ va.length = va.length) ⟨rfl, rfl⟩ <| .ret (.inr (va, s, i)))
theorem gs_step {idx : List UInt8 → Option Int} {c : UInt8} (hidx : ∀ s, idx s = some (if s.contains c = true then ((before c s).length : Int) else -1)) {va : List (List UInt8)} {s : List UInt8} {i n : Nat} (hi : i < n) (hv : i < va.length) (hvl : va.length < 1125899906842624) (hn : s.length < 1125899906842624) (h : s.contains c = true) :
  (gsT idx va s 0 (n : Int) (i : Int)).val = some (.inl (va.set i (before c s), after c s, ((i + 1 : Nat) : Int))) := by
 have hl := before_len h
 have hw := wS (k := (before c s).length) (by omega)
 have hw0 : IntKind.i64.wrap (((before c s).length : Int) + 0) = ((before c s).length : Int) := w64 (by omega) (by omega)
 have hwi := wS (k := i) (by omega)
 unfold gsT
 rw [hidx]
 have hneg : ¬ ((before c s).length : Int) < 0 := by omega
 simp only [if_pos h, Tr.val, hw, hw0, hwi, Int.toNat_natCast, Nat.zero_add, take_before h, decide_eq_false hneg, lt_nat, decide_eq_true hi, cond_true, cond_false, List.length_set]
 rw [if_pos (by omega), if_pos (by omega), if_pos hv, if_pos (by omega), if_pos (by simp)]
 simp [drop_after h]
theorem gs_loop {idx : List UInt8 → Option Int} {c : UInt8} (hidx : ∀ s, idx s = some (if s.contains c = true then ((before c s).length : Int) else -1)) {n : Nat} : ∀ (k : Nat) (va : List (List UInt8)) (s : List UInt8) (i m : Nat), s.count c = k → va.length = n + 1 → i + k = n → va.length < 1125899906842624 → s.length < 1125899906842624 → k < m →
  ∃ va' s', iter (fun z : List (List UInt8) × List UInt8 × Int => gsT idx z.1 z.2.1 0 (n : Int) z.2.2) m (va, s, (i : Int)) = some (va', s', (n : Int)) ∧ va'.length = n + 1 ∧ va'.set n s' = va.take i ++ splitC c s := by
 intro k
 induction k with
 | zero =>
  intro va s i m hc hv hi hvl hn hm
  have hns : s.contains c = false := by
   have := List.count_eq_zero.1 hc
   simpa using this
  have hin : i = n := by omega
  subst hin
  obtain ⟨m, rfl⟩ : ∃ m', m = m' + 1 := ⟨m - 1, by omega⟩
  refine ⟨va, s, ?_, hv, ?_⟩
  ·rw [iter]
   simp [gsT, Tr.val]
  ·rw [splitC_not hns]
   apply List.ext_getElem?
   intro j
   rw [List.getElem?_set]
   rcases Nat.lt_trichotomy j i with h | h | h
   ·rw [if_neg (by omega), List.getElem?_append_left (by simp; omega), List.getElem?_take_of_lt h]
   ·subst h
    have ht : (va.take j).length = j := by simp; omega
    rw [if_pos rfl, if_pos (by omega), List.getElem?_append_right (by omega), ht, Nat.sub_self]
    rfl
   ·rw [if_neg (by omega), List.getElem?_eq_none (by omega), List.getElem?_eq_none (by simp; omega)]
 | succ k ih =>
  intro va s i m hc hv hi hvl hn hm
  have hs : s.contains c = true := by
   have : 0 < s.count c := by omega
   have := List.count_pos_iff.1 this
   simpa using this
  obtain ⟨m, rfl⟩ : ∃ m', m = m' + 1 := ⟨m - 1, by omega⟩
  have hl := before_len hs
  have hcnt : (after c s).count c = k := by
   have h1 := splitC_len c s.length s (Nat.le_refl _)
   have h2 := splitC_len c (after c s).length (after c s) (Nat.le_refl _)
   rw [splitC_is hs, List.length_cons] at h1
   omega
  obtain ⟨va', s', h1, h2, h3⟩ := ih (va.set i (before c s)) (after c s) (i + 1) m hcnt (by simpa using hv) (by omega) (by simpa using hvl) (by omega) (by omega)
  refine ⟨va', s', ?_, h2, ?_⟩
  ·rw [iter]
   simp only [gs_step hidx (show i < n by omega) (show i < va.length by omega) hvl hn hs]
   exact h1
  ·rw [h3, splitC_is hs]
   have : (va.set i (before c s)).take (i + 1) = va.take i ++ [before c s] := by
    have ht : (va.take i).length = i := by simp; omega
    rw [List.take_set, List.take_add_one, List.getElem?_eq_getElem (show i < va.length by omega), List.set_append_right _ _ (by omega), ht, Nat.sub_self]
    rfl
   rw [this, List.append_assoc]
   rfl
def splitT (idx : List UInt8 → Option Int) (cnt : Option Int) (s : List UInt8) : Tr (List (List UInt8)) :=
 .call cnt fun y1 =>
  .chk ((0 : Int) ≤ mn2 (IntKind.i64.wrap (y1 + (1 : Int))) (IntKind.i64.wrap ((↑s.length : Int) + (1 : Int))) ∧ mn2 (IntKind.i64.wrap (y1 + (1 : Int))) (IntKind.i64.wrap ((↑s.length : Int) + (1 : Int))) ≤ mn2 (IntKind.i64.wrap (y1 + (1 : Int))) (IntKind.i64.wrap ((↑s.length : Int) + (1 : Int))) ∧ mn2 (IntKind.i64.wrap (y1 + (1 : Int))) (IntKind.i64.wrap ((↑s.length : Int) + (1 : Int))) * (↑(16 : Nat) : Int) ≤ (140737488355328 : Int) ∧ mn2 (IntKind.i64.wrap (y1 + (1 : Int))) (IntKind.i64.wrap ((↑s.length : Int) + (1 : Int))) ≤ (140737488355328 : Int)) <| .chk ((0 : Nat) = (0 : Nat) ∧ (mn2 (IntKind.i64.wrap (y1 + (1 : Int))) (IntKind.i64.wrap ((↑s.length : Int) + (1 : Int)))).toNat = (List.replicate (mn2 (IntKind.i64.wrap (y1 + (1 : Int))) (IntKind.i64.wrap ((↑s.length : Int) + (1 : Int)))).toNat ([] : List UInt8)).length) <| .call (Loop (fun z : List (List UInt8) × List UInt8 × Int => gsT idx z.1 z.2.1 0 (IntKind.i64.wrap (mn2 (IntKind.i64.wrap (y1 + (1 : Int))) (IntKind.i64.wrap ((↑s.length : Int) + (1 : Int))) - (1 : Int))) z.2.2) ((List.replicate (mn2 (IntKind.i64.wrap (y1 + (1 : Int))) (IntKind.i64.wrap ((↑s.length : Int) + (1 : Int)))).toNat ([] : List UInt8)), s, (0 : Int))) fun y2 =>
  .chk ((0 : Int) ≤ y2.snd.snd ∧ y2.snd.snd < (↑y2.fst.length : Int)) <| .chk ((0 : Nat) + y2.snd.snd.toNat < y2.fst.length) <| .chk ((0 : Int) ≤ (0 : Int) ∧ (0 : Int) ≤ IntKind.i64.wrap (y2.snd.snd + (1 : Int)) ∧ IntKind.i64.wrap (y2.snd.snd + (1 : Int)) ≤ (↑y2.fst.length : Int)) <| .chk ((0 : Nat) = (0 : Nat) ∧ (IntKind.i64.wrap (y2.snd.snd + (1 : Int)) - (↑(0 : Nat) : Int)).toNat = (y2.fst.set ((0 : Nat) + y2.snd.snd.toNat) y2.snd.fst).length) <| .ret (y2.fst.set ((0 : Nat) + y2.snd.snd.toNat) y2.snd.fst)
theorem splitT_f {idx : List UInt8 → Option Int} {c : UInt8} (hidx : ∀ s, idx s = some (if s.contains c = true then ((before c s).length : Int) else -1)) {s : List UInt8} (hn : s.length ≤ 1099511627776) :
  (splitT idx (some ((s.count c : Nat) : Int)) s).val = some (splitC c s) := by
 have hcl : s.count c ≤ s.length := List.count_le_length
 have e1 := wS (k := s.count c) (by omega)
 have e2 := wS (k := s.length) (by omega)
 have e3 : mn2 (((s.count c + 1 : Nat) : Int)) (((s.length + 1 : Nat) : Int)) = ((s.count c + 1 : Nat) : Int) := by rw [mn2_eq]; omega
 have e4 : IntKind.i64.wrap (((s.count c + 1 : Nat) : Int) - 1) = ((s.count c : Nat) : Int) := by rw [w64 (by omega) (by omega)]; omega
 obtain ⟨va, s', h1, h2, h3⟩ := gs_loop hidx (n := s.count c) (s.count c) (List.replicate (s.count c + 1) []) s 0 rounds rfl (by simp) (by omega) (by simp; omega) (by omega) (by unfold rounds; omega)
 have hL : Loop (fun z : List (List UInt8) × List UInt8 × Int => gsT idx z.1 z.2.1 0 ((s.count c : Nat) : Int) z.2.2) (List.replicate (s.count c + 1) [], s, 0) = some (va, s', ((s.count c : Nat) : Int)) := h1
 unfold splitT
 simp only [Tr.val, e1, e2, e3, e4, Int.toNat_natCast, hL, Nat.zero_add, h2, List.length_set, List.length_replicate]
 rw [if_pos (by omega), if_pos (by simp), if_pos (by omega), if_pos (by omega), if_pos (by omega), if_pos (by simp), h3]
 simp
theorem splitC_small {c : UInt8} : ∀ (n : Nat) {s : List UInt8}, s.length ≤ n → ∀ x ∈ splitC c s, x.length ≤ s.length
 | 0, s, h, x, hx => by
  have : s = [] := List.length_eq_zero_iff.1 (by omega)
  subst this
  simp [splitC] at hx
  subst hx
  simp
 | n + 1, s, h, x, hx => by
  by_cases hc : s.contains c = true
  ·have hl := before_len hc
   rw [splitC_is hc] at hx
   rcases List.mem_cons.1 hx with rfl | hx
   ·omega
   ·have := splitC_small n (show (after c s).length ≤ n by omega) x hx
    omega
  ·rw [splitC_not (by simpa using hc)] at hx
   simp at hx
   subst hx
   exact Nat.le_refl _
theorem vtrue {α : Type} (a b : Tr α) : (Tr.br true a b).val = a.val := rfl
theorem vfalse {α : Type} (a b : Tr α) : (Tr.br false a b).val = b.val := rfl
def idxV : Unit ⊕ Int → Int
 | .inl _ => -1
 | .inr j => j
def idxStep {α : Type} (p : α → Bool) (k : Nat) (c : α) : Option (Unit ⊕ Int) := if p c = true then some (.inr (k : Int)) else none
theorem idx_scan {α : Type} (p : α → Bool) : ∀ (l : List α) (k : Nat), idxV (scan (idxStep p) (.inl ()) k l) = if l.any p = true then ((k + l.findIdx p : Nat) : Int) else -1
 | [], _ => rfl
 | c :: l, k => by
  rw [scan, idxStep, List.any_cons, List.findIdx_cons]
  by_cases h : p c = true
  ·simp [h, idxV]
  ·have h' : p c = false := by simpa using h
   simp only [h', Bool.false_eq_true, if_false, Bool.false_or, cond_false]
   rw [idx_scan p l (k + 1)]
   split
   ·congr 1; omega
   ·rfl
theorem idx_ge {α : Type} (p : α → Bool) (l : List α) : decide (idxV (scan (idxStep p) (.inl ()) 0 l) ≥ 0) = l.any p := by
 rw [idx_scan]
 cases l.any p <;> simp
theorem idx_t (q : Unit ⊕ Int) {k : Unit → Tr Int} (hk : k () = .ret (-1)) : (Tr.both (some q) k (fun y => Tr.ret y)).val = some (idxV q) := by
 cases q with
 | inl u => cases u; show (k ()).val = _; rw [hk]; rfl
 | inr j => rfl
theorem before_app {c : UInt8} : ∀ {a b : List UInt8}, a.contains c = false → before c (a ++ c :: b) = a ∧ after c (a ++ c :: b) = b
 | [], b, _ => by simp [before, after]
 | x :: a, b, h => by
  have hx : x ≠ c := by intro e; subst e; simp at h
  have ha : a.contains c = false := by simp at h ⊢; exact h.2
  have := before_app (b := b) ha
  unfold before after at this ⊢
  simp [hx, this]
def fieldR (name value : List UInt8) : Bool := !(name == []) && name.all isTok && value.all isText && trim value == value
theorem kind_tok : ∀ s : List UInt8, s.all (isKind 1) = s.all isTok := fun s => by congr 1
theorem kind_text : ∀ s : List UInt8, s.all (isKind 6) = s.all isText := fun s => by congr 1
theorem fieldR_f {name value : List UInt8} (h1 : name.length ≤ 1000000) (h2 : value.length ≤ 1000000) : field_Right.f name value = some (fieldR name value) := by
 have hx : name ++ [(58 : UInt8)] ++ value = name ++ 58 :: value := by simp
 have hc : (name ++ 58 :: value).contains 58 = true := by simp
 have hout : field_out.f 0 12 = some ([], [], false, 400) := by decide +kernel
 unfold field_Right.f field_Right.t fieldR
 rw [Tr.val_chk (by simp; omega), Tr.val_chk (by simp; omega), hx, cut3a_f (by simp; omega), Tr.val_call rfl]
 unfold cutC
 rw [if_pos hc]
 have hl := before_len hc
 simp only [List.length_append, List.length_cons] at hl
 by_cases h58 : name.contains 58 = true
 ·have hb : (before 58 (name ++ 58 :: value) == name) = false := by
   rw [beq_eq_false_iff_ne]
   intro e
   have hn : (before 58 (name ++ 58 :: value)).contains 58 = false := by
    unfold before
    rw [List.contains_eq_any_beq, List.any_eq_false]
    intro x hx e
    have h3 := List.all_eq_true.1 (List.all_takeWhile (p := (· != (58 : UInt8))) (l := name ++ 58 :: value)) x hx
    rw [← beq_iff_eq.1 e] at h3
    simp at h3
   rw [e, h58] at hn
   cases hn
  have ht : name.all isTok = false := by
   rw [List.all_eq_false]
   exact ⟨58, by simpa using h58, by decide⟩
  rw [ht]
  simp only [Bool.not_true, vfalse]
  cases h0 : (before 58 (name ++ 58 :: value) == [])
  ·rw [vfalse, text_Trim_f (by omega), Tr.val_call rfl, octet_All1 (by omega), Tr.val_call rfl, octet_All1 (by have := trimP_length isBlank (after 58 (name ++ 58 :: value)); unfold trim; omega), hb]
   cases (before 58 (name ++ 58 :: value)).all (isKind 1) <;> cases (trim (after 58 (name ++ 58 :: value))).all (isKind 6) <;> simp [Tr.val]
  ·rw [vtrue, hout]
   simp [Tr.val]
 ·obtain ⟨q1, q2⟩ := before_app (b := value) (show name.contains 58 = false by simpa using h58)
  rw [q1, q2]
  simp only [Bool.not_true, vfalse]
  cases h0 : (name == [])
  ·rw [vfalse, text_Trim_f (by omega), Tr.val_call rfl, octet_All1 (by omega), Tr.val_call rfl, octet_All1 (by have := trimP_length isBlank value; unfold trim; omega), kind_tok, kind_text]
   cases ht : (trim value == value)
   ·cases name.all isTok <;> cases (trim value).all isText <;> simp [Tr.val, ht]
   ·have e : trim value = value := by simpa using ht
    rw [e]
    cases name.all isTok <;> cases value.all isText <;> simp [Tr.val]
  ·rw [vtrue, hout]
   simp [Tr.val]
theorem index2c_f (s : List UInt8) : strings_Index_sx2c.f s = some (if s.contains 44 = true then ((before 44 s).length : Int) else -1) := by
 unfold strings_Index_sx2c.f strings_Index_sx2c.t internal_stringslite_Index_sx2c.f internal_stringslite_Index_sx2c.t
 rw [show (44 : Int) = ((44 : UInt8).toNat : Int) from rfl, slite_f]
 by_cases h : [(44 : UInt8)] = s
 ·have := before_one h
  simp only [Tr.val, beq_iff_eq.2 h, cond_true, this.1, this.2, if_true]
  rfl
 ·simp [Tr.val, beq_eq_false_iff_ne.2 h]
theorem split2c_f {s : List UInt8} (hn : s.length ≤ 1099511627776) : strings_Split_sx2c.f s = some (splitC 44 s) := by
 have h : strings_genSplit_sx2c.f s 0 (-1) = some (splitC 44 s) := by
  rw [← splitT_f index2c_f hn]; rfl
 unfold strings_Split_sx2c.f strings_Split_sx2c.t
 rw [h]; rfl
def Fit (N : Nat) (l : List (List UInt8)) : Prop := ∀ x ∈ l, x.length ≤ N
theorem flatMap_one {α β : Type} (g : α → β) (l : List α) : (l.flatMap fun x => [g x]) = l.map g := by
 induction l with
 | nil => rfl
 | cons x l ih => simp [ih]
theorem gather {α β : Type} (g : α → List β) : ∀ (l : List α) (out : List β), foldE (fun out x => (Sum.inl (out ++ g x) : List β ⊕ List β)) id out l = out ++ l.flatMap g
 | [], out => by simp [foldE]
 | x :: l, out => by
  show foldE (fun out x => (Sum.inl (out ++ g x) : List β ⊕ List β)) id (out ++ g x) l = _
  rw [gather g l]; simp
theorem list_inner {values out t15 : List (List UInt8)} (h1 : Fit 1099511627776 t15) (h2 : out.length + t15.length ≤ 4398046511104) : text_List.L6.f values out t15 (t15.length : Int) 0 = some (out ++ t15.map trim) := by
 unfold text_List.L6.f
 refine (Loop_list (A := List (List UInt8)) (a := out) t15 (fun k o => (o, (k : Int))) (fun k o => o.length = out.length + k) (fun o x => .inl (o ++ [trim x])) id ?_ ?_ (by omega) (by simp) rfl).trans ?_
 ·intro k o x ho hk hx
  have hw := wS (k := k) (by omega)
  have hx' : x.length < 1125899906842624 := by
   have := h1 x (by rw [← hx]; exact List.getElem_mem hk)
   omega
  refine ⟨?_, fun a' h => by cases h; simp [ho]; omega⟩
  unfold text_List.L6.t
  simp only [Nat.zero_add, getD_at hk hx, text_Trim_f hx', Tr.val, lt_nat, decide_eq_true hk, cond_true, take_all, hw]
  rw [if_pos (by omega), if_pos (by simpa using hk), if_pos (by omega), if_pos (by omega), if_pos (by simp)]
 ·intro o _
  simp [text_List.L6.t, Tr.val]
 ·congr 1
  have := gather (fun x => [trim x]) t15 out
  rw [this, flatMap_one]
theorem list_outer {values : List (List UInt8)} (h1 : Fit 1099511627776 values) (h2 : (listS values).length ≤ 4398046511104) (h3 : values.length ≤ 4398046511104) : text_List.f values = some (listS values) := by
 have hL : text_List.L3.f values [] (values.length : Int) 0 = some (listS values) := by
  unfold text_List.L3.f
  refine (Loop_list (A := List (List UInt8)) (a := []) values (fun k o => (o, (k : Int))) (fun k o => o = listS (values.take k)) (fun o x => .inl (o ++ (splitC 44 x).map trim)) id ?_ ?_ (by omega) (by simp [listS]) rfl).trans ?_
  ·intro k o x ho hk hx
   have hw := wS (k := k) (by omega)
   have hx' : x.length ≤ 1099511627776 := h1 x (by rw [← hx]; exact List.getElem_mem hk)
   have hnext : listS (values.take (k + 1)) = o ++ (splitC 44 x).map trim := by
    rw [ho, List.take_add_one, List.getElem?_eq_getElem hk, hx]
    unfold listS
    rw [List.flatMap_append]
    simp
   have hle : o.length + (splitC 44 x).length ≤ 4398046511104 := by
    have e1 : (listS (values.take (k + 1))).length ≤ (listS values).length := by
     conv => rhs; rw [← List.take_append_drop (k + 1) values]
     unfold listS
     rw [List.flatMap_append, List.length_append]
     omega
    rw [hnext] at e1
    simp at e1
    omega
   refine ⟨?_, fun a' h => by cases h; exact hnext.symm⟩
   have hfit : Fit 1099511627776 (splitC 44 x) := fun y hy => by
    have := splitC_small x.length (Nat.le_refl _) y hy
    omega
   unfold text_List.L3.t
   simp only [Nat.zero_add, getD_at hk hx, split2c_f hx', list_inner hfit hle, Tr.val, lt_nat, decide_eq_true hk, cond_true, hw]
   rw [if_pos (by omega), if_pos (by simpa using hk)]
  ·intro o _
   simp [text_List.L3.t, Tr.val]
  ·congr 1
   have := gather (fun x => (splitC 44 x).map trim) values []
   rw [this]
   rfl
 unfold text_List.f text_List.t
 rw [hL]; rfl
theorem find_loop {l : List (List UInt8 × List UInt8)} {name : List UInt8} (h1 : ∀ f ∈ l, f.1.length < 140737488355328) (hname : name.length < 140737488355328) (h2 : l.length ≤ 4398046511104) : text_Find.f l name = some (findS l name) := by
 have hL : text_Find.L3.f l [] name (l.length : Int) 0 = some (findS l name) := by
  unfold text_Find.L3.f
  refine (Loop_list (A := List (List UInt8)) (a := []) l (fun k o => (o, (k : Int))) (fun k o => o.length ≤ k) (fun o x => .inl (o ++ if same x.1 name = true then [x.2] else [])) id ?_ ?_ (by omega) (by simp) rfl).trans ?_
  ·intro k o x ho hk hx
   have hw := wS (k := k) (by omega)
   have hx' := h1 x (by rw [← hx]; exact List.getElem_mem hk)
   refine ⟨?_, fun a' h => by cases h; split <;> simp <;> omega⟩
   unfold text_Find.L3.t
   simp only [Nat.zero_add, getD_at hk hx, text_Same_f hx' hname, Tr.val, lt_nat, decide_eq_true hk, cond_true, take_all, hw]
   rw [if_pos (by omega), if_pos (by simpa using hk)]
   cases hs : same x.1 name with
   | true =>
    simp only [cond_true, if_true]
    rw [if_pos (by omega), if_pos (by omega), if_pos (by simp)]
   | false => simp
  ·intro o _
   simp [text_Find.L3.t, Tr.val]
  ·congr 1
   rw [gather]
   unfold findS
   clear h1 h2
   induction l with
   | nil => rfl
   | cons x l ih =>
    simp only [List.nil_append, List.flatMap_cons] at ih ⊢
    rw [ih, List.filter_cons]
    split <;> simp
 unfold text_Find.f text_Find.t
 rw [hL]; rfl
theorem vokl {α : Type} (n : Nat) (a : Tr α) : (Tr.okl n a).val = a.val := rfl
def FitF (l : List (List UInt8 × List UInt8)) : Prop := l.length ≤ 1000000 ∧ ∀ f ∈ l, f.1.length ≤ 1000000 ∧ f.2.length ≤ 1000000
theorem find_f {l : List (List UInt8 × List UInt8)} {name : List UInt8} (h : FitF l) (hname : name.length ≤ 1000000) : text_Find.f l name = some (findS l name) :=
 find_loop (fun f hf => by have := (h.2 f hf).1; omega) (by omega) (by have := h.1; omega)
theorem findS_fit {l : List (List UInt8 × List UInt8)} {name : List UInt8} (h : FitF l) : (findS l name).length ≤ 1000000 ∧ ∀ x ∈ findS l name, x.length ≤ 1000000 := by
 unfold findS
 constructor
 ·rw [List.length_map]
  have := List.length_filter_le (fun f => same f.1 name) l
  have := h.1
  omega
 ·intro x hx
  obtain ⟨f, hf, rfl⟩ := List.mem_map.1 hx
  exact (h.2 f (List.mem_filter.1 hf).1).2
theorem listS_len (values : List (List UInt8)) : ∀ (M : Nat), (∀ x ∈ values, x.length ≤ M) → (listS values).length ≤ values.length * (M + 1) := by
 intro M h
 induction values with
 | nil => simp [listS]
 | cons v l ih =>
  have e : listS (v :: l) = (splitC 44 v).map trim ++ listS l := by simp [listS]
  rw [e, List.length_append, List.length_map, List.length_cons, splitC_len 44 v.length v (Nat.le_refl _)]
  have h1 := h v (List.mem_cons_self ..)
  have h2 : v.count 44 ≤ v.length := List.count_le_length
  have h3 := ih fun x hx => h x (List.mem_cons_of_mem _ hx)
  have h4 : (l.length + 1) * (M + 1) = l.length * (M + 1) + (M + 1) := by rw [Nat.succ_mul]
  omega
theorem listS_small (values : List (List UInt8)) (M : Nat) (h : ∀ x ∈ values, x.length ≤ M) : ∀ x ∈ listS values, x.length ≤ M := by
 intro x hx
 unfold listS at hx
 obtain ⟨v, hv, hx⟩ := List.mem_flatMap.1 hx
 obtain ⟨y, hy, rfl⟩ := List.mem_map.1 hx
 have h1 := splitC_small v.length (Nat.le_refl _) y hy
 have h2 := trimP_length isBlank y
 have := h v hv
 unfold trim
 omega
theorem list_f {values : List (List UInt8)} (h1 : values.length ≤ 1000000) (h2 : ∀ x ∈ values, x.length ≤ 1000000) : text_List.f values = some (listS values) := by
 refine list_outer (fun x hx => by have := h2 x hx; omega) ?_ (by omega)
 have := listS_len values 1000000 h2
 have : values.length * (1000000 + 1) ≤ 1000000 * (1000000 + 1) := Nat.mul_le_mul_right _ h1
 omega
theorem go_call {α β : Type} {o : Option β} {k : β → Tr α} {y : β} {r : Option α} (h : o = some y) (hk : (k y).val = r) : (Tr.call o k).val = r := by subst h; exact hk
theorem go_chk {α : Type} {p : Prop} [Decidable p] {a : Tr α} {r : Option α} (h : p) (hk : a.val = r) : (Tr.chk p a).val = r := by rw [Tr.val_chk h]; exact hk
theorem go_t {α : Type} {b : Bool} {x y : Tr α} {r : Option α} (h : b = true) (hk : x.val = r) : (Tr.br b x y).val = r := by subst h; exact hk
theorem go_f {α : Type} {b : Bool} {x y : Tr α} {r : Option α} (h : b = false) (hk : y.val = r) : (Tr.br b x y).val = r := by subst h; exact hk
theorem Loop_count {σ ρ : Type} {body : σ → Tr (σ ⊕ ρ)} (N : Nat) (st : Nat → σ) (r : ρ) (hs : ∀ k, k < N → (body (st k)).val = some (.inl (st (k + 1)))) (he : (body (st N)).val = some (.inr r)) (hN : N < 1125899906842624) {s0 : σ} (h0 : s0 = st 0) : Loop body s0 = some r := by
 refine (Loop_list (A := Unit) (a := ()) (List.replicate N ()) (fun k _ => st k) (fun _ _ => True) (fun _ _ => .inl ()) (fun _ => r) ?_ ?_ (by simpa using hN) trivial h0).trans ?_
 ·intro k a c _ hk _
  exact ⟨hs k (by simpa using hk), fun _ _ => trivial⟩
 ·intro _ _
  simpa using he
 ·have : ∀ (m : List Unit), foldE (fun (_ : Unit) (_ : Unit) => (Sum.inl () : Unit ⊕ ρ)) (fun _ => r) () m = r := by
   intro m
   induction m with
   | nil => rfl
   | cons c m ih => exact ih
  rw [this]
end Pl
end Go.Vx
end
section
set_option linter.unusedVariables false
set_option linter.unusedSimpArgs false
set_option maxRecDepth 100000
namespace Go.Vx
namespace Pl
open Go Go.Proofs
abbrev Bs := List UInt8
abbrev Fs := List (List UInt8 × List UInt8)
theorem take_one {α : Type} (x : α) : List.take 1 [x] = [x] := rfl
theorem take_snoc {α : Type} (l : List α) (x : α) : List.take (l.length + 1) (l ++ [x]) = l ++ [x] := List.take_of_length_le (by simp)
theorem any_without {l : List Bs} {what : Bs} (hn : l.length < 1125899906842624) (hs : ∀ x ∈ l, x.length ≤ 1000000) (hw : what.length ≤ 1000000) : slices_ContainsFunc_f_text_Without_1.f l what = some (l.any fun x => same what x) := by
 have hL : slices_IndexFunc_f_text_Without_1.L2.f l what (l.length : Int) 0 = some (scan (idxStep fun x => same what x) (.inl ()) 0 l) := by
  unfold slices_IndexFunc_f_text_Without_1.L2.f
  refine Loop_scan l (idxStep fun x => same what x) (.inl ()) (fun k c hk hc => ?_) ?_ hn
  ·have hw' := wS (k := k) (by omega)
   have hcl := hs c (by rw [← hc]; exact List.getElem_mem hk)
   have f1 : text_Without_1.f what c = some (same what c) := by
    unfold text_Without_1.f text_Without_1.t
    rw [text_Same_f (by omega) (by omega)]; rfl
   unfold slices_IndexFunc_f_text_Without_1.L2.t idxStep
   simp only [Nat.zero_add, getD_at hk hc, f1, Tr.val, lt_nat, decide_eq_true hk, cond_true, hw']
   rw [if_pos (by omega), if_pos (by simpa using hk)]
   by_cases h : same what c = true
   ·simp only [h]; rfl
   ·have h' : same what c = false := by simpa using h
    simp only [h']; rfl
  ·simp [slices_IndexFunc_f_text_Without_1.L2.t, Tr.val]
 have hI : slices_IndexFunc_f_text_Without_1.f l what = some (idxV (scan (idxStep fun x => same what x) (.inl ()) 0 l)) := by
  unfold slices_IndexFunc_f_text_Without_1.f slices_IndexFunc_f_text_Without_1.t
  rw [hL]
  exact idx_t _ rfl
 unfold slices_ContainsFunc_f_text_Without_1.f slices_ContainsFunc_f_text_Without_1.t
 rw [take_all, hI, Tr.val_chk (by omega), Tr.val_call rfl, idx_ge]
 rfl
def withoutS (l : Fs) (names : List Bs) : Fs := l.filter fun f => !(names.any fun x => same f.1 x)
theorem foldE_filter {α : Type} (p : α → Bool) : ∀ (l out : List α), foldE (fun out x => (Sum.inl (out ++ if p x = true then [x] else []) : List α ⊕ List α)) id out l = out ++ l.filter p
 | [], out => by simp [foldE]
 | x :: l, out => by
  show foldE _ id (out ++ if p x = true then [x] else []) l = _
  rw [foldE_filter p l]
  cases h : p x <;> simp [h, List.filter_cons]
theorem without_f {l : Fs} {names : List Bs} (h : FitF l) (hn : names.length ≤ 1000000) (hs : ∀ x ∈ names, x.length ≤ 1000000) : text_Without.f l names = some (withoutS l names) := by
 have hlen := h.1
 have hL : text_Without.L3.f l names [] (l.length : Int) 0 = some (withoutS l names) := by
  unfold text_Without.L3.f
  refine (Loop_list (A := Fs) (a := []) l (fun k o => (o, (k : Int))) (fun k o => o.length ≤ k) (fun o x => .inl (o ++ if (!(names.any fun y => same x.1 y)) = true then [x] else [])) id ?_ ?_ (by omega) (by simp) rfl).trans ?_
  ·intro k o x ho hk hx
   have hw := wS (k := k) (by omega)
   have hx' := h.2 x (by rw [← hx]; exact List.getElem_mem hk)
   have hany := any_without (l := names) (what := x.1) (by omega) hs hx'.1
   refine ⟨?_, fun a' h => by cases h; split <;> simp <;> omega⟩
   unfold text_Without.L3.t
   dsimp only
   rw [hw]
   simp only [Nat.zero_add, getD_at hk hx]
   refine go_t (by rw [decide_eq_true_iff]; omega) (go_chk (by omega) (go_chk (by simpa using hk) (go_chk (Nat.le_refl _) ?_)))
   refine go_call (by rw [take_all]; exact hany) ?_
   cases hs' : names.any fun y => same x.1 y with
   | true =>
    refine go_f rfl ?_
    repeat rw [vokl]
    simp [Tr.val]
   | false =>
    refine go_t rfl ?_
    repeat (first
     | refine go_chk (by omega) ?_
     | refine go_chk (by simp; omega) ?_
     | refine go_chk (by simp) ?_
     | rw [vokl])
    simp [Tr.val]
  ·intro o _
   unfold text_Without.L3.t
   dsimp only
   exact go_f (by simp) rfl
  ·rw [foldE_filter]
   rfl
 unfold text_Without.f text_Without.t
 repeat rw [vokl]
 exact go_call hL rfl
def connB : Bs := [67, 111, 110, 110, 101, 99, 116, 105, 111, 110]
def namesL : List Bs := match hop_Names.f with
 | some l => l
 | none => []
def okNames : Bool := match hop_Names.f with
 | some l => decide (l.length ≤ 20) && l.all fun x => decide (x.length ≤ 30)
 | none => false
theorem okNames_is : okNames = true := by decide +kernel
theorem names_f : hop_Names.f = some namesL ∧ namesL.length ≤ 20 ∧ ∀ x ∈ namesL, x.length ≤ 30 := by
 have h := okNames_is
 unfold okNames at h
 unfold namesL
 split at h
 ·rename_i l hl
  rw [hl]
  simp only [Bool.and_eq_true, decide_eq_true_eq, List.all_eq_true] at h
  exact ⟨rfl, h.1, h.2⟩
 ·cases h
theorem clone_f {l : Fs} (h : l.length ≤ 1000001) : slices_Clone.f l = some l := by
 unfold slices_Clone.f
 rw [if_pos (by omega)]
theorem with_f {l : Fs} {name value : Bs} (h : l.length ≤ 1000000) : hop_with.f l name value = some (l ++ [(name, value)]) := by
 unfold hop_with.f hop_with.t
 refine go_chk (by omega) ?_
 refine go_call (by rw [take_all]; exact clone_f (by omega)) ?_
 repeat (first
  | refine go_chk (by omega) ?_
  | refine go_chk (by simp; omega) ?_
  | refine go_chk (by simp) ?_
  | rw [vokl])
 simp [Tr.val]
theorem via_f {l : Fs} {name : Bs} (h : l.length ≤ 1000000) (hn : name.length ≤ 1000000) : hop_Via.f l name = some (l ++ [([86, 105, 97], [49, 46, 49, 32] ++ name)]) := by
 unfold hop_Via.f hop_Via.t
 refine go_chk (by simp; omega) (go_chk (by omega) ?_)
 refine go_call (by rw [take_all]; exact with_f h) ?_
 rfl
end Pl
end Go.Vx
end
section
set_option linter.unusedVariables false
set_option linter.unusedSimpArgs false
set_option maxRecDepth 100000
namespace Go.Vx
namespace Pl
open Go Go.Proofs
def lineF (f : Bs × Bs) : Bs := f.1 ++ [58, 32] ++ f.2 ++ [13, 10]
def putS (l : Fs) : Bs := l.flatMap lineF
theorem lineF_len (f : Bs × Bs) : (lineF f).length = f.1.length + f.2.length + 4 := by simp [lineF]; omega
theorem putS_len {l : Fs} {M : Nat} (h : ∀ f ∈ l, f.1.length + f.2.length + 4 ≤ M) : (putS l).length ≤ l.length * M := by
 induction l with
 | nil => simp [putS]
 | cons x l ih =>
  have := ih fun f hf => h f (List.mem_cons_of_mem _ hf)
  have hx := h x (List.mem_cons_self ..)
  show (lineF x ++ putS l).length ≤ _
  rw [List.length_append, lineF_len, List.length_cons, Nat.succ_mul]
  omega
theorem fieldPut_f {l : Fs} (h : l.length ≤ 10000) (hs : ∀ f ∈ l, f.1.length ≤ 1000000 ∧ f.2.length ≤ 1000000) : field_Put.f l = some (putS l) := by
 cases l with
 | nil =>
  unfold field_Put.f field_Put.t
  exact go_f (by simp) rfl
 | cons x r =>
  have hx := hs x (List.mem_cons_self ..)
  have hlen : (x :: r).length = r.length + 1 := List.length_cons
  have hL : field_Put.L3.f (x :: r) (lineF x) ((x :: r).length : Int) 1 = some (putS (x :: r)) := by
   have key : iter (fun z : Bs × Int => field_Put.L3.t (x :: r) z.1 ((x :: r).length : Int) z.2) rounds (lineF x, ((1 : Nat) : Int)) = some (foldE (fun (o : Bs) f => (Sum.inl (o ++ lineF f) : Bs ⊕ Bs)) id (lineF x) ((x :: r).drop 1)) := by
    refine iter_list (x :: r) (fun k (o : Bs) => (o, (k : Int))) (fun k o => o.length ≤ 3000000 * k) (fun o f => .inl (o ++ lineF f)) id ?_ ?_ rounds 1 (lineF x) (by rw [lineF_len]; omega) (by omega) (by unfold rounds; omega)
    ·intro k o f ho hk hf
     have hw := wS (k := k) (by omega)
     have hf' := hs f (by rw [← hf]; exact List.getElem_mem hk)
     have hll := lineF_len f
     refine ⟨?_, fun a' h => by cases h; rw [List.length_append, hll]; omega⟩
     unfold field_Put.L3.t
     dsimp only
     rw [hw]
     simp only [Nat.zero_add, getD_at hk hf]
     have e : f.1 ++ [58, 32] ++ f.2 ++ [13, 10] = lineF f := rfl
     simp only [e]
     refine go_t (by rw [decide_eq_true_iff]; omega) ?_
     repeat (first
      | refine go_chk (by omega) ?_
      | refine go_chk (by simp; omega) ?_
      | rw [vokl])
     simp [Tr.val]
    ·intro o _
     dsimp only
     unfold field_Put.L3.t
     exact go_f (by simp) rfl
   unfold field_Put.L3.f
   refine Eq.trans key ?_
   have g : ∀ (m : Fs) (o : Bs), foldE (fun (o : Bs) f => (Sum.inl (o ++ lineF f) : Bs ⊕ Bs)) id o m = o ++ putS m := fun m o => gather lineF m o
   rw [show (x :: r).drop 1 = r from rfl, g]
   rfl
  have hpl := putS_len (l := x :: r) (M := 2000004) fun f hf => by have := hs f hf; omega
  have hpos : 0 < (putS (x :: r)).length := by
   show 0 < (lineF x ++ putS r).length
   rw [List.length_append, lineF_len]; omega
  have hll := lineF_len x
  have e : ([] : Bs) ++ (x.1 ++ [58, 32] ++ x.2 ++ [13, 10]) = lineF x := rfl
  have e' : x.1 ++ [58, 32] ++ x.2 ++ [13, 10] = lineF x := rfl
  have hbig : (putS (x :: r)).length ≤ 140737488355328 := by rw [hlen] at hpl; omega
  unfold field_Put.f field_Put.t
  rw [show (x :: r).getD (0 : Nat) ([], []) = x from rfl]
  simp only [e']
  refine go_t (by simp) ?_
  repeat (first
   | refine go_chk (by omega) ?_
   | refine go_chk (by simp; omega) ?_
   | refine go_chk (by simp) ?_
   | rw [vokl])
  refine go_call hL ?_
  generalize putS (x :: r) = y at *
  repeat (first
   | refine go_chk (by omega) ?_
   | refine go_chk (by simp; omega) ?_
   | refine go_chk (by simp) ?_
   | rw [vokl])
  simp [Tr.val]
theorem any_right1 {l : Fs} {p : Bs × Bs → Bool} (hn : l.length < 1125899906842624) (hp : ∀ f ∈ l, reply_Right_1.f f.1 f.2 = some (p f)) : slices_ContainsFunc_f_reply_Right_1.f l = some (l.any p) := by
 have hL : slices_IndexFunc_f_reply_Right_1.L2.f l (l.length : Int) 0 = some (scan (idxStep p) (.inl ()) 0 l) := by
  unfold slices_IndexFunc_f_reply_Right_1.L2.f
  refine Loop_scan l (idxStep p) (.inl ()) (fun k c hk hc => ?_) ?_ hn
  ·have hw' := wS (k := k) (by omega)
   have f1 := hp c (by rw [← hc]; exact List.getElem_mem hk)
   unfold slices_IndexFunc_f_reply_Right_1.L2.t idxStep
   rw [hw']
   simp only [Nat.zero_add, getD_at hk hc]
   refine go_t (by rw [decide_eq_true_iff]; omega) (go_chk (by omega) (go_chk (by simpa using hk) (go_call f1 ?_)))
   by_cases h : p c = true
   ·rw [if_pos h]; exact go_t h rfl
   ·rw [if_neg h]; exact go_f (by simpa using h) rfl
  ·unfold slices_IndexFunc_f_reply_Right_1.L2.t
   exact go_f (by simp) rfl
 have hI : slices_IndexFunc_f_reply_Right_1.f l = some (idxV (scan (idxStep p) (.inl ()) 0 l)) := by
  unfold slices_IndexFunc_f_reply_Right_1.f slices_IndexFunc_f_reply_Right_1.t
  rw [hL]
  exact idx_t _ rfl
 unfold slices_ContainsFunc_f_reply_Right_1.f slices_ContainsFunc_f_reply_Right_1.t
 rw [take_all, hI, Tr.val_chk (by omega), Tr.val_call rfl, idx_ge]
 rfl
theorem any_right {l : Fs} (h : FitF l) : slices_ContainsFunc_f_reply_Right_1.f l = some (l.any fun f => !(fieldR f.1 f.2)) :=
 any_right1 (by have := h.1; omega) fun f hf => by
  have hcl := h.2 f hf
  unfold reply_Right_1.f reply_Right_1.t
  exact go_call (fieldR_f hcl.1 hcl.2) rfl
def rightS (F : Fs) (c : Int) : Bool := decide (200 ≤ c) && decide (c ≤ 599) && !(F.any fun f => !(fieldR f.1 f.2))
theorem replyRight_f {F : Fs} {c : Int} (h : FitF F) : reply_Right.f F c = some (rightS F c) := by
 have hlen := h.1
 have ha := any_right h
 unfold reply_Right.f reply_Right.t rightS
 by_cases h1 : 200 ≤ c
 ·rw [decide_eq_true h1]
  refine go_t rfl ?_
  by_cases h2 : c ≤ 599
  ·rw [decide_eq_true h2]
   refine go_t rfl ?_
   refine go_chk (by omega) (go_call (by rw [take_all]; exact ha) ?_)
   rfl
  ·rw [decide_eq_false h2]
   exact go_f rfl (by simp [Tr.val])
 ·rw [decide_eq_false h1]
  exact go_f rfl (by simp [Tr.val])
end Pl
end Go.Vx
end
section
set_option linter.unusedVariables false
set_option linter.unusedSimpArgs false
set_option maxRecDepth 100000
namespace Go.Vx
namespace Pl
open Go Go.Proofs
def clB : Bs := [67, 111, 110, 116, 101, 110, 116, 45, 76, 101, 110, 103, 116, 104]
def teB : Bs := [84, 114, 97, 110, 115, 102, 101, 114, 45, 69, 110, 99, 111, 100, 105, 110, 103]
def protoB : Bs := [72, 84, 84, 80, 47, 49, 46, 49, 32]
def closeB : Bs := [99, 108, 111, 115, 101]
def hopN : List Bs := [clB, teB, connB]
theorem take_snoc2 {α : Type} (l : List α) (x y : α) : List.take (l.length + 1 + 1) (l ++ [x] ++ [y]) = l ++ [x] ++ [y] := List.take_of_length_le (by simp)
theorem take_app {α : Type} (a b : List α) : List.take (a.length + b.length) (a ++ b) = a ++ b := List.take_of_length_le (by simp)
def noneS (c : Int) : Bool := (c == 204) || (c == 304)
set_option maxHeartbeats 4000000 in
theorem put_aux {F L : Fs} {body A B N q1 q2 q3 q4 : Bs} {c : Int} {head closes : Bool} (hR : reply_Right.f F c = some true) (hW : text_Without.f F hopN = some L) (hA : number_Put.f c = some A) (hN : number_Put.f (body.length : Int) = some N)
  (hB : reply_Reason.f c = some B) (h1 : field_Put.f L = some q1) (h2 : field_Put.f (L ++ [(clB, N)]) = some q2) (h3 : field_Put.f (L ++ [(connB, closeB)]) = some q3) (h4 : field_Put.f (L ++ [(clB, N)] ++ [(connB, closeB)]) = some q4)
  (lA : A.length ≤ 10) (lB : B.length ≤ 100) (lb : body.length ≤ 1000) (lL : L.length ≤ 1000000) (lF : F.length ≤ 1000000) (k1 : q1.length ≤ 10000000000) (k2 : q2.length ≤ 10000000000) (k3 : q3.length ≤ 10000000000) (k4 : q4.length ≤ 10000000000) :
  reply_Put.f F body c head closes = some (protoB ++ A ++ [32] ++ B ++ [13, 10] ++ (if noneS c = true then (if closes = true then q3 else q1) else (if closes = true then q4 else q2)) ++ [13, 10] ++ (if (noneS c || head) = true then [] else body)) := by
 have hc : ([67, 111, 110, 110, 101, 99, 116, 105, 111, 110] : Bs) = connB := rfl
 have hcl : ([67, 111, 110, 116, 101, 110, 116, 45, 76, 101, 110, 103, 116, 104] : Bs) = clB := rfl
 have hte : ([84, 114, 97, 110, 115, 102, 101, 114, 45, 69, 110, 99, 111, 100, 105, 110, 103] : Bs) = teB := rfl
 have hcb : ([99, 108, 111, 115, 101] : Bs) = closeB := rfl
 have hpr : ([72, 84, 84, 80, 47, 49, 46, 49, 32] : Bs) = protoB := rfl
 have hho : [clB, teB, connB] = hopN := rfl
 have lp : protoB.length = 9 := rfl
 unfold reply_Put.f reply_Put.t noneS
 simp only [hc, hcl, hte, hcb, hpr, hho, Nat.zero_add, List.drop_zero, List.take_length, List.nil_append, Int.toNat_natCast, Nat.mul_one, take_one, take_snoc, take_snoc2, take_app]
 generalize (c == 204) = b1
 generalize (c == 304) = b2
 refine go_chk (Nat.le_refl _) (go_chk (Nat.le_refl _) (go_call hR (go_f rfl ?_)))
 generalize hopN = hop at hW ⊢
 generalize protoB = pr at lp ⊢
 generalize clB = cl at h2 h4 ⊢
 generalize connB = cn at h3 h4 ⊢
 generalize closeB = cb at h3 h4 ⊢
 cases b1 <;> cases b2 <;> cases head <;> cases closes <;>
  simp only [Bool.not_true, Bool.not_false, Bool.or_true, Bool.true_or, Bool.or_false, Bool.false_or, if_true, Bool.false_eq_true, if_false] <;>
  repeat' (first
   | rw [vtrue]
   | rw [vfalse]
   | rw [vokl]
   | with_reducible refine go_call hW ?_
   | with_reducible refine go_call hA ?_
   | with_reducible refine go_call hN ?_
   | with_reducible refine go_call hB ?_
   | with_reducible refine go_call h1 ?_
   | with_reducible refine go_call h2 ?_
   | with_reducible refine go_call h3 ?_
   | with_reducible refine go_call h4 ?_
   | with_reducible refine go_chk ?_ ?_
   | omega
   | exact ⟨trivial, trivial⟩
   | (simp only [List.length_append, List.length_cons, List.length_nil, lp]; omega)
   | (simp only [List.length_append, List.length_cons, List.length_nil, lp, true_and]; omega)
   | (show some _ = some _; simp only [List.append_assoc, List.append_nil]; done)
   | (show some _ = some _; simp [List.append_assoc]; done))
def pv (k : Nat) : Bs := match ref1_Put.f (k : Int) with
 | some y => y
 | none => []
theorem pv_all : ((List.range 600).all fun k => match ref1_Put.f (k : Int), number_Put.f (k : Int) with
 | some y, some z => (y == z) && decide (y.length ≤ 4)
 | _, _ => false) = true := by decide +kernel
theorem pv_f {k : Nat} (hk : k < 600) : ref1_Put.f (k : Int) = some (pv k) ∧ number_Put.f (k : Int) = some (pv k) ∧ (pv k).length ≤ 4 := by
 have := List.all_eq_true.1 pv_all k (List.mem_range.2 hk)
 unfold pv
 split at this
 ·rename_i y z hy hz
  simp only [Bool.and_eq_true, beq_iff_eq, decide_eq_true_eq] at this
  obtain ⟨rfl, h⟩ := this
  rw [hy]
  exact ⟨rfl, hz, h⟩
 ·cases this
def rs (c : Int) : Bs := ((getR tabR c).getD ⟨#[79, 116, 104, 101, 114]⟩).data.toList
theorem getR_in {n : Int} {s : ByteArray} : ∀ {l : List (Int × ByteArray)}, getR l n = some s → ∃ p ∈ l, p.2 = s
 | [], h => by cases h
 | p :: l, h => by
  unfold getR at h
  split at h
  ·exact ⟨p, List.mem_cons_self .., by simpa using h⟩
  ·obtain ⟨q, hq, e⟩ := getR_in h
   exact ⟨q, List.mem_cons_of_mem _ hq, e⟩
theorem tab_len : (tabR.all fun p => decide (p.2.data.toList.length ≤ 100)) = true := by decide +kernel
theorem rs_f (c : Int) : reply_Reason.f c = some (rs c) ∧ (rs c).length ≤ 100 := by
 refine ⟨rfl, ?_⟩
 unfold rs
 cases h : getR tabR c with
 | none => simp
 | some s =>
  obtain ⟨p, hp, rfl⟩ := getR_in h
  have := List.all_eq_true.1 tab_len p hp
  simpa using this
end Pl
end Go.Vx
end
section
set_option linter.unusedVariables false
set_option linter.unusedSimpArgs false
set_option maxRecDepth 100000
namespace Go.Vx
namespace Pl
open Go Go.Proofs
def hostB : Bs := [72, 111, 115, 116]
def pS (s : Bs) : Bool := same s hostB || same s clB
theorem strip1_f {s : Bs} (h : s.length ≤ 1000000) : hop_Strip_1.f s = some (pS s) := by
 unfold hop_Strip_1.f hop_Strip_1.t pS
 refine go_call (text_Same_f (b := hostB) (by omega) (by decide)) ?_
 cases h1 : same s hostB
 ·refine go_f rfl (go_call (text_Same_f (b := clB) (by omega) (by decide)) ?_)
  rfl
 ·exact go_t rfl rfl
theorem idxStrip_f {l : List Bs} (hn : l.length < 1125899906842624) (hs : ∀ x ∈ l, x.length ≤ 1000000) : slices_IndexFunc_f_hop_Strip_1.f l = some (idxV (scan (idxStep pS) (.inl ()) 0 l)) := by
 have hL : slices_IndexFunc_f_hop_Strip_1.L2.f l (l.length : Int) 0 = some (scan (idxStep pS) (.inl ()) 0 l) := by
  unfold slices_IndexFunc_f_hop_Strip_1.L2.f
  refine Loop_scan l (idxStep pS) (.inl ()) (fun k c hk hc => ?_) ?_ hn
  ·have hw' := wS (k := k) (by omega)
   have f1 := strip1_f (hs c (by rw [← hc]; exact List.getElem_mem hk))
   unfold slices_IndexFunc_f_hop_Strip_1.L2.t idxStep
   rw [hw']
   simp only [Nat.zero_add, getD_at hk hc]
   refine go_t (by rw [decide_eq_true_iff]; omega) (go_chk (by omega) (go_chk (by simpa using hk) (go_call f1 ?_)))
   by_cases h : pS c = true
   ·rw [if_pos h]; exact go_t h rfl
   ·rw [if_neg h]; exact go_f (by simpa using h) rfl
  ·unfold slices_IndexFunc_f_hop_Strip_1.L2.t
   exact go_f (by simp) rfl
 unfold slices_IndexFunc_f_hop_Strip_1.f slices_IndexFunc_f_hop_Strip_1.t
 rw [hL]
 exact idx_t _ rfl
def keptT (l : List Bs) (j : Nat) : List Bs := (l.take j).filter fun s => !pS s
theorem kept_next {l : List Bs} {j : Nat} (h : j < l.length) : keptT l (j + 1) = keptT l j ++ if pS l[j] = true then [] else [l[j]] := by
 unfold keptT
 rw [List.take_succ_eq_append_getElem h, List.filter_append]
 congr 1
 cases h1 : pS l[j] <;> simp [List.filter_cons, h1]
theorem kept_le (l : List Bs) (j : Nat) : (keptT l j).length ≤ j := by
 unfold keptT
 have := List.length_filter_le (fun s => !pS s) (l.take j)
 have := List.length_take_le j l
 omega
theorem kept_lt {l : List Bs} {i0 : Nat} (h0 : i0 < l.length) (hp : pS l[i0] = true) : ∀ m, i0 + 1 + m ≤ l.length → (keptT l (i0 + 1 + m)).length ≤ i0 + m
 | 0, _ => by
  rw [Nat.add_zero, kept_next h0, if_pos hp, List.append_nil]
  exact kept_le l i0
 | m + 1, h => by
  have ih := kept_lt h0 hp m (by omega)
  rw [show i0 + 1 + (m + 1) = (i0 + 1 + m) + 1 by omega, kept_next (by omega), List.length_append]
  split <;> simp <;> omega
theorem del_loop {l : List Bs} {i0 : Nat} (hn : l.length < 1000000000000) (hs : ∀ x ∈ l, x.length ≤ 1000000) (h0 : i0 < l.length) (hp : pS l[i0] = true) (hb : ∀ s ∈ l.take i0, pS s = false) :
  slices_DeleteFunc_f_hop_Strip_1.L5.f l (i0 : Int) ((i0 + 1 : Nat) : Int) = some (keptT l l.length ++ l.drop (keptT l l.length).length, ((keptT l l.length).length : Int)) := by
 have hk0 : keptT l (i0 + 1) = l.take i0 := by
  rw [kept_next h0, if_pos hp, List.append_nil]
  unfold keptT
  exact List.filter_eq_self.2 fun s hs => by rw [hb s hs]; rfl
 unfold slices_DeleteFunc_f_hop_Strip_1.L5.f
 refine Loop_count (l.length - (i0 + 1)) (fun m => (keptT l (i0 + 1 + m) ++ l.drop (keptT l (i0 + 1 + m)).length, ((keptT l (i0 + 1 + m)).length : Int), ((i0 + 1 + m : Nat) : Int))) _ (fun m hm => ?_) ?_ (by omega) ?_
 ·have hlt := kept_lt h0 hp m (by omega)
  replace hlt : (keptT l (i0 + 1 + m)).length < i0 + 1 + m := by omega
  have hj : i0 + 1 + m < l.length := by omega
  have hnx := kept_next hj
  rw [show i0 + 1 + (m + 1) = (i0 + 1 + m) + 1 by omega, hnx]
  have hc := hs l[i0 + 1 + m] (List.getElem_mem hj)
  generalize hK : keptT l (i0 + 1 + m) = K at hlt hnx ⊢
  generalize i0 + 1 + m = j at hlt hj hnx hc ⊢
  have hsl : (K ++ l.drop K.length).length = l.length := by rw [List.length_append, List.length_drop]; omega
  have hat : (K ++ l.drop K.length).getD j [] = l[j] := by
   rw [List.getD_eq_getElem?_getD, List.getElem?_append_right (by omega), List.getElem?_drop, show K.length + (j - K.length) = j by omega, List.getElem?_eq_getElem hj]
   rfl
  have hw1 : IntKind.i64.wrap ((K.length : Int) + 1) = ((K.length + 1 : Nat) : Int) := by rw [w64 (by omega) (by omega)]; omega
  have hw2 := wS (k := j) (by omega)
  have f1 := strip1_f hc
  unfold slices_DeleteFunc_f_hop_Strip_1.L5.t
  dsimp only
  rw [hw1, hw2]
  simp only [Int.toNat_natCast, Nat.zero_add, hat]
  refine go_t (by rw [decide_eq_true_iff]; omega) (go_chk (by omega) (go_chk (by omega) (go_call f1 ?_)))
  by_cases h : pS l[j] = true
  ·rw [h, if_pos rfl, List.append_nil]
   refine go_f rfl ?_
   repeat rw [vokl]
   rfl
  ·have h' : pS l[j] = false := by simpa using h
   rw [h', if_neg (by decide)]
   refine go_t rfl (go_chk (by omega) (go_chk (by omega) ?_))
   repeat rw [vokl]
   refine go_chk (by simp) ?_
   repeat rw [vokl]
   have hset : (K ++ l.drop K.length).set K.length l[j] = K ++ [l[j]] ++ l.drop (K.length + 1) := by
    have hKl : K.length < l.length := by omega
    rw [List.set_append_right _ _ (Nat.le_refl _), Nat.sub_self, List.drop_eq_getElem_cons hKl]
    simp only [List.set_cons_zero, List.append_assoc, List.cons_append, List.nil_append]
   rw [hset]
   show some _ = some _
   simp
 ·have hlt := kept_lt h0 hp (l.length - (i0 + 1)) (by omega)
  rw [show i0 + 1 + (l.length - (i0 + 1)) = l.length by omega] at *
  have hsl : (keptT l l.length ++ l.drop (keptT l l.length).length).length = l.length := by rw [List.length_append, List.length_drop]; omega
  unfold slices_DeleteFunc_f_hop_Strip_1.L5.t
  dsimp only
  refine go_f (by rw [decide_eq_false_iff_not]; omega) ?_
  repeat rw [vokl]
  rfl
 ·rw [Nat.add_zero, hk0]
  have : (l.take i0).length = i0 := by simp; omega
  rw [this, List.take_append_drop]
end Pl
end Go.Vx
end
section
set_option linter.unusedVariables false
set_option linter.unusedSimpArgs false
set_option maxRecDepth 100000
namespace Go.Vx
namespace Pl
open Go Go.Proofs
theorem ref1_Hex_f (c : UInt8) : ref1_Hex.f (c.toNat : Int) = some ((hexv c : Int), isHex c) := byte_fn (f := ref1_Hex.f) (g := fun c => ((hexv c : Int), isHex c)) (by decide +kernel) c
theorem rDigit_f (c : UInt8) : ref1_Digit.f (c.toNat : Int) = some (isDigit c) := byte_fn (f := ref1_Digit.f) (g := isDigit) (by decide +kernel) c
theorem rToken_f (c : UInt8) : ref1_Token.f (c.toNat : Int) = some (isTok c) := byte_fn (f := ref1_Token.f) (g := isTok) (by decide +kernel) c
theorem rVisible_f (c : UInt8) : ref1_Visible.f (c.toNat : Int) = some (isVis c) := byte_fn (f := ref1_Visible.f) (g := isVis) (by decide +kernel) c
theorem rBlank_f (c : UInt8) : ref1_Blank.f (c.toNat : Int) = some (isBlank c) := byte_fn (f := ref1_Blank.f) (g := isBlank) (by decide +kernel) c
theorem rText_f (c : UInt8) : ref1_Text.f (c.toNat : Int) = some (isText c) := byte_fn (f := ref1_Text.f) (g := isText) (by decide +kernel) c
theorem rSet_f (c : UInt8) : ref1_in.f (c.toNat : Int) [(32 : UInt8), (9 : UInt8)] = some (isBlank c) := byte_fn (f := fun c => ref1_in.f c [(32 : UInt8), (9 : UInt8)]) (g := isBlank) (by decide +kernel) c
theorem rIs_f (c : UInt8) (k : Int) : ref1_is.f (c.toNat : Int) k = some (isKind k c) := by
 unfold ref1_is.f ref1_is.t isKind
 rw [ref1_Hex_f, rToken_f, rVisible_f, rBlank_f, rDigit_f, rText_f]
 simp only [Tr.val, bif_ite, beq_iff_eq]
 split <;> (try rfl) <;> split <;> (try rfl) <;> split <;> (try rfl) <;> split <;> (try rfl) <;> split <;> (try rfl) <;> split <;> rfl
theorem rAll_L6 {kd : Int} {s : List UInt8} {i : Nat} {c : UInt8} (hi : i < s.length) (hc : s[i]'hi = c) : ref1_All.L6.f [kd] s (i : Int) false 0 = some (isKind kd c) := by
 unfold ref1_All.L6.f
 refine (Loop_list (A := Bool) (ρ := Bool) (a := false) [kd] (fun k a => (a, (k : Int))) (fun _ _ => True) (fun a k => .inl (a || isKind k c)) id ?_ ?_ (by simp) trivial rfl).trans (by simp [foldE])
 ·intro k a kd' _ hk hkc
  refine ⟨?_, fun _ _ => trivial⟩
  have hw := wS (k := k) (by simp at hk; omega)
  subst hkc hc
  cases a <;> simp [ref1_All.L6.t, Tr.val, rIs_f, in_rng hk, hw, hk, in_rng hi, hi] <;> simp at hk <;> simp [hk]
 ·intro a _
  simp [ref1_All.L6.t, Tr.val]
theorem rAll1 {k : Int} {s : List UInt8} (hn : s.length < 1125899906842624) : ref1_All.f [k] s = some (s.all (isKind k)) := by
 have hL : ref1_All.L2.f [k] s 0 = some (if (s.all fun c => isKind k c) = true then .inl () else .inr false) := by
  unfold ref1_All.L2.f
  refine (Loop_scan s (fun _ c => if isKind k c = true then none else some (Sum.inr false : Unit ⊕ Bool)) (.inl ()) (fun i c hl hc => ?_) ?_ hn).trans (by rw [scan_all])
  ·have hw := wS (k := i) (by omega)
   have h6 := rAll_L6 (kd := k) hl hc
   have d : decide ((i : Int) < (s.length : Int)) = true := by simp; omega
   unfold ref1_All.L2.t
   rw [d, h6]
   by_cases h : isKind k c = true
   ·simp [Tr.val, h, hw]
   ·have h' : isKind k c = false := by simpa using h
    simp [Tr.val, h', hw]
  ·simp [ref1_All.L2.t, Tr.val]
 unfold ref1_All.f ref1_All.t
 rw [hL]
 cases (s.all fun c => isKind k c) <;> simp [Tr.val]
theorem rLower_byte (c : UInt8) (h1 : (c.toNat : Int) ≥ 65) (h2 : (c.toNat : Int) ≤ 90) : IntKind.u8.wrap ((c.toNat : Int) + 32) = ((c.toNat + 32 : Nat) : Int) ∧ UInt8.ofNat (c.toNat + 32) = lowerC c := by
 have := all256 (p := fun c => !(decide ((c.toNat : Int) ≥ 65) && decide ((c.toNat : Int) ≤ 90)) || (decide (IntKind.u8.wrap ((c.toNat : Int) + 32) = ((c.toNat + 32 : Nat) : Int)) && (UInt8.ofNat (c.toNat + 32) == lowerC c))) (by decide +kernel) c
 simpa [h1, h2] using this
theorem rLower_f {s : List UInt8} (hn : s.length < 140737488355328) : ref1_Lower.f s = some (lower s) := by
 have hL : ref1_Lower.L3.f s 0 = some (lower s) := by
  unfold ref1_Lower.L3.f
  refine (Loop_list (A := Unit) (a := ()) s (fun k _ => ((s.take k).map lowerC ++ s.drop k, (k : Int))) (fun _ _ => True) (fun _ _ => .inl ()) (fun _ => lower s) ?_ ?_ (by omega) trivial (by simp)).trans ?_
  ·intro k a c _ hk hc
   refine ⟨?_, fun _ _ => trivial⟩
   subst hc
   have hw := wS (k := k) (by omega)
   have ha := lower_at hk
   have hl := lower_len (Nat.le_of_lt hk)
   unfold ref1_Lower.L3.t
   simp only [Int.toNat_natCast, Nat.zero_add, ha, hl, lt_nat, decide_eq_true hk, hw, lower_next hk]
   by_cases h1 : (s[k].toNat : Int) ≥ 65
   ·by_cases h2 : (s[k].toNat : Int) ≤ 90
    ·obtain ⟨q1, q2⟩ := rLower_byte s[k] h1 h2
     rw [q1]
     simp only [Tr.val, h1, h2, decide_true, cond_true, Int.toNat_natCast, q2, lower_set hk, List.length_set, hl]
     simp [hk]
     omega
    ·have := lower_not s[k] (fun h => h2 h.2)
     simp only [Tr.val, h1, h2, decide_true, decide_false, cond_true, cond_false, this]
     simp [hk]
   ·have := lower_not s[k] (fun h => h1 h.1)
    simp only [Tr.val, h1, decide_true, decide_false, cond_true, cond_false, this]
    simp [hk]
  ·intro a _
   simp [ref1_Lower.L3.t, Tr.val, lower]
  ·have : ∀ (l : List UInt8), foldE (fun (_ : Unit) (_ : UInt8) => (Sum.inl () : Unit ⊕ List UInt8)) (fun _ => lower s) () l = lower s := by
    intro l
    induction l with
    | nil => rfl
    | cons c l ih => exact ih
   rw [this]
 unfold ref1_Lower.f ref1_Lower.t
 rw [List.nil_append, hL]
 simp [Tr.val]
 omega
theorem rSame_f {a b : List UInt8} (ha : a.length < 140737488355328) (hb : b.length < 140737488355328) : ref1_Same.f a b = some (same a b) := by
 unfold ref1_Same.f ref1_Same.t
 rw [rLower_f ha, rLower_f hb]
 rfl
theorem rOne_f {l : List (List UInt8)} {s : List UInt8} (hn : l.length < 1125899906842624) (hl : ∀ x ∈ l, x.length ≤ 1000000) (hs : s.length ≤ 1000000) : ref1_One.f l s = some (l.any fun x => same x s) := by
 have hL : ref1_One.L2.f l s 0 = some (if (l.any fun x => same x s) = true then .inr true else .inl ()) := by
  unfold ref1_One.L2.f
  refine (Loop_scan l (fun _ c => if same c s = true then some (Sum.inr true : Unit ⊕ Bool) else none) (.inl ()) (fun i c hk hc => ?_) ?_ hn).trans (by rw [scan_any])
  ·have hw := wS (k := i) (by omega)
   have hcl := hl c (by rw [← hc]; exact List.getElem_mem hk)
   have d : decide ((i : Int) < (l.length : Int)) = true := by simp; omega
   unfold ref1_One.L2.t
   rw [d, vtrue, Tr.val_chk (by omega), Nat.zero_add, Int.toNat_natCast, getD_nat hk hc, Tr.val_chk hk, rSame_f (by omega) (by omega), Tr.val_call rfl, hw]
   by_cases h : same c s = true
   ·rw [h]; rfl
   ·have h' : same c s = false := by simpa using h
    rw [h']; rfl
  ·simp [ref1_One.L2.t, Tr.val]
 unfold ref1_One.f ref1_One.t
 rw [hL]
 cases (l.any fun x => same x s) <;> simp [Tr.val]
theorem rTrim_front {s : List UInt8} (hn : s.length < 1125899906842624) : ref1_TrimOf.L1.f s [32, 9] = some (s.dropWhile isBlank) := by
 unfold ref1_TrimOf.L1.f
 refine Loop_front (p := isBlank) ?_ ?_ hn
 ·simp [ref1_TrimOf.L1.t, Tr.val]
 ·intro c l _
  cases h : isBlank c <;> simp [ref1_TrimOf.L1.t, Tr.val, rSet_f, h] <;> omega
theorem rTrim_end {s : List UInt8} (hn : s.length < 1125899906842624) : ref1_TrimOf.L3.f s [32, 9] = some (dropEnd isBlank s) := by
 unfold ref1_TrimOf.L3.f
 refine Loop_end (p := isBlank) ?_ ?_ hn
 ·simp [ref1_TrimOf.L3.t, Tr.val]
 ·intro l c hl
  have h1 := snoc_wrap (l := l) (c := c) (by omega)
  have h2 : ((l ++ [c]) == []) = false := by simp
  have h3 : (l ++ [c]).getD l.length 0 = c := by simp
  unfold ref1_TrimOf.L3.t
  rw [h1]
  simp only [Tr.val, h2, Int.toNat_natCast, h3, rSet_f]
  cases h : isBlank c <;> simp <;> omega
theorem rTrim_f {s : List UInt8} (hn : s.length < 1125899906842624) : ref1_Trim.f s = some (trim s) := by
 unfold ref1_Trim.f ref1_Trim.t ref1_TrimOf.f ref1_TrimOf.t trim trimP
 rw [rTrim_front hn]
 have := (List.dropWhile_sublist isBlank (l := s)).length_le
 simp only [Tr.val, rTrim_end (s := List.dropWhile isBlank s) (by omega)]
theorem rRight_f {name value : List UInt8} (h1 : name.length ≤ 1000000) (h2 : value.length ≤ 1000000) : ref9_Right.f name value = some (fieldR name value) := by
 unfold ref9_Right.f ref9_Right.t fieldR
 rw [rAll1 (by omega), rAll1 (by omega), rTrim_f (by omega), kind_tok, kind_text]
 cases (name == []) <;> cases name.all isTok <;> cases value.all isText <;> simp [Tr.val]
theorem splitC_app {c : UInt8} {a b : List UInt8} (h : a.contains c = false) : splitC c (a ++ c :: b) = a :: splitC c b := by
 have hc : (a ++ c :: b).contains c = true := by simp
 have hb : before c (a ++ c :: b) = a ∧ after c (a ++ c :: b) = b := by
  unfold before after
  induction a with
  | nil => simp
  | cons x a ih =>
   have hx : x ≠ c := by
    intro e; subst e; simp at h
   have ha : a.contains c = false := by
    simp at h ⊢; exact h.2
   have := ih ha (by simp)
   simp [hx, this]
 rw [splitC_is hc, hb.1, hb.2]
theorem drop_at {s : List UInt8} {a i : Nat} (ha : a ≤ i) (hi : i < s.length) : s.drop a = (s.take i).drop a ++ s[i] :: s.drop (i + 1) := by
 have h1 : s.drop i = s[i] :: s.drop (i + 1) := List.drop_eq_getElem_cons hi
 rw [← h1]
 have h2 : s.take i ++ s.drop i = s := List.take_append_drop i s
 conv => lhs; rw [← h2]
 rw [List.drop_append_of_le_length (by simp; omega)]
theorem take_next {s : List UInt8} {a i : Nat} (ha : a ≤ i) (hi : i < s.length) : (s.take (i + 1)).drop a = (s.take i).drop a ++ [s[i]] := by
 rw [List.take_add_one, List.getElem?_eq_getElem hi, Option.toList_some, List.drop_append_of_le_length (by simp; omega)]
theorem iter_inl {σ ρ : Type} {body : σ → Tr (σ ⊕ ρ)} {n : Nat} {s s' : σ} (h : (body s).val = some (.inl s')) : iter body (n + 1) s = iter body n s' := by rw [iter, h]
theorem iter_inr {σ ρ : Type} {body : σ → Tr (σ ⊕ ρ)} {n : Nat} {s : σ} {r : ρ} (h : (body s).val = some (.inr r)) : iter body (n + 1) s = some r := by rw [iter, h]
theorem rs_loop {c : UInt8} {s : List UInt8} (hn : s.length < 1073741824) : ∀ (d i a : Nat) (out : List (List UInt8)) (m : Nat), i + d = s.length → a ≤ i → ((s.take i).drop a).contains c = false → out.length ≤ i → d + 2 ≤ m →
  iter (fun z : List (List UInt8) × Int × Int => ref1_Split.L4.t z.1 s (c.toNat : Int) z.2.1 z.2.2) m (out, (a : Int), (i : Int)) = some (out ++ splitC c (s.drop a)) := by
 intro d
 induction d with
 | zero =>
  intro i a out m hi ha hc ho hm
  have : i = s.length := by omega
  subst this
  obtain ⟨m, rfl⟩ : ∃ m', m = m' + 1 + 1 := ⟨m - 2, by omega⟩
  rw [List.take_length] at hc
  have hw := wS (k := s.length) (by omega)
  have h1 : decide (((s.length : Nat) : Int) ≤ (s.length : Int)) = true := by simp
  have h2 : (((s.length : Nat) : Int) == (s.length : Int)) = true := by simp
  have h3 : decide (((s.length + 1 : Nat) : Int) ≤ (s.length : Int)) = false := by simp; omega
  have s1 : (ref1_Split.L4.t out s (c.toNat : Int) (a : Int) (s.length : Int)).val = some (.inl (out ++ [s.drop a], ((s.length + 1 : Nat) : Int), ((s.length + 1 : Nat) : Int))) := by
   simp only [ref1_Split.L4.t, Tr.val, h1, h2, cond_true, cond_false, hw, Int.toNat_natCast, List.take_length, List.drop_zero]
   rw [if_pos (by omega), if_pos (by omega), if_pos (by omega), if_pos (by simp)]
  have s2 : (ref1_Split.L4.t (out ++ [s.drop a]) s (c.toNat : Int) ((s.length + 1 : Nat) : Int) ((s.length + 1 : Nat) : Int)).val = some (.inr (out ++ [s.drop a])) := by
   simp only [ref1_Split.L4.t, Tr.val, h3, cond_false]
  rw [iter_inl (body := fun z : List (List UInt8) × Int × Int => ref1_Split.L4.t z.1 s (c.toNat : Int) z.2.1 z.2.2) s1, iter_inr (body := fun z : List (List UInt8) × Int × Int => ref1_Split.L4.t z.1 s (c.toNat : Int) z.2.1 z.2.2) s2, splitC_not hc]
 | succ d ih =>
  intro i a out m hi ha hc ho hm
  have hk : i < s.length := by omega
  obtain ⟨m, rfl⟩ : ∃ m', m = m' + 1 := ⟨m - 1, by omega⟩
  have hw := wS (k := i) (by omega)
  have h1 : decide ((i : Int) ≤ (s.length : Int)) = true := by simp; omega
  have h2 : ((i : Int) == (s.length : Int)) = false := by simp; omega
  by_cases hx : s[i] = c
  ·have e : ((s[i].toNat : Int) == (c.toNat : Int)) = true := by rw [hx]; simp
   have := ih (i + 1) (i + 1) (out ++ [(s.take i).drop a]) m (by omega) (Nat.le_refl _) (by simp) (by simp; omega) (by omega)
   have s1 : (ref1_Split.L4.t out s (c.toNat : Int) (a : Int) (i : Int)).val = some (.inl (out ++ [(s.take i).drop a], ((i + 1 : Nat) : Int), ((i + 1 : Nat) : Int))) := by
    simp only [ref1_Split.L4.t, Tr.val, h1, h2, getD_at hk rfl, getD_nat hk rfl, e, cond_true, cond_false, hw, Int.toNat_natCast, List.drop_zero, List.take_length, in_rng hk, and_self, if_true]
    rw [if_pos (by omega), if_pos (by omega), if_pos (by omega), if_pos (by simp)]
   rw [iter_inl (body := fun z : List (List UInt8) × Int × Int => ref1_Split.L4.t z.1 s (c.toNat : Int) z.2.1 z.2.2) s1, this, drop_at ha hk, hx, splitC_app hc]
   simp
  ·have e : ((s[i].toNat : Int) == (c.toNat : Int)) = false := by rw [byte_is]; simpa using hx
   have hc' : ((s.take (i + 1)).drop a).contains c = false := by
    rw [take_next ha hk, List.contains_eq_any_beq, List.any_append, ← List.contains_eq_any_beq, hc]
    simp
    exact fun e => hx e.symm
   have := ih (i + 1) a out m (by omega) (by omega) hc' (by omega) (by omega)
   have s1 : (ref1_Split.L4.t out s (c.toNat : Int) (a : Int) (i : Int)).val = some (.inl (out, (a : Int), ((i + 1 : Nat) : Int))) := by
    simp only [ref1_Split.L4.t, Tr.val, h1, h2, getD_at hk rfl, e, cond_true, cond_false, hw, in_rng hk, and_self, if_true]
   rw [iter_inl (body := fun z : List (List UInt8) × Int × Int => ref1_Split.L4.t z.1 s (c.toNat : Int) z.2.1 z.2.2) s1]
   exact this
theorem ref1_Split_f {c : UInt8} {s : List UInt8} (hn : s.length < 1073741824) : ref1_Split.f s (c.toNat : Int) = some (splitC c s) := by
 unfold ref1_Split.f ref1_Split.t ref1_Split.L4.f
 have := rs_loop (c := c) hn s.length 0 0 [] rounds (by omega) (Nat.le_refl _) (by simp) (by simp) (by unfold rounds; omega)
 rw [List.nil_append, List.drop_zero] at this
 have h : Loop (fun z : List (List UInt8) × Int × Int => ref1_Split.L4.t z.1 s (c.toNat : Int) z.2.1 z.2.2) ([], 0, 0) = some (splitC c s) := this
 rw [h]; rfl
end Pl
end Go.Vx
end
section
set_option linter.unusedVariables false
set_option linter.unusedSimpArgs false
set_option maxRecDepth 100000
namespace Go.Vx
namespace Pl
open Go Go.Proofs
theorem same_comm (a b : Bs) : same a b = same b a := by
 unfold same
 exact Bool.eq_iff_iff.2 ⟨fun h => by rw [beq_iff_eq] at h ⊢; exact h.symm, fun h => by rw [beq_iff_eq] at h ⊢; exact h.symm⟩
theorem rWithout_f {l : Fs} {names : List Bs} (h : FitF l) (hn : names.length ≤ 1000000) (hs : ∀ x ∈ names, x.length ≤ 1000000) : ref1_Without.f l names = some (withoutS l names) := by
 have hlen := h.1
 have hL : ref1_Without.L3.f l names [] 0 = some (withoutS l names) := by
  unfold ref1_Without.L3.f
  refine (Loop_list (A := Fs) (a := []) l (fun k o => (o, (k : Int))) (fun k o => o.length ≤ k) (fun o x => .inl (o ++ if (!(names.any fun y => same x.1 y)) = true then [x] else [])) id ?_ ?_ (by omega) (by simp) rfl).trans ?_
  ·intro k o x ho hk hx
   have hw := wS (k := k) (by omega)
   have hx' := h.2 x (by rw [← hx]; exact List.getElem_mem hk)
   have hany := rOne_f (l := names) (s := x.1) (by omega) hs hx'.1
   rw [show (fun y => same y x.1) = fun y => same x.1 y from funext fun y => same_comm _ _] at hany
   refine ⟨?_, fun a' h => by cases h; split <;> simp <;> omega⟩
   unfold ref1_Without.L3.t
   dsimp only
   rw [hw]
   simp only [Nat.zero_add, getD_at hk hx]
   refine go_t (by rw [decide_eq_true_iff]; omega) (go_chk (by omega) (go_chk (by simpa using hk) (go_chk (Nat.le_refl _) ?_)))
   refine go_call (by rw [take_all]; exact hany) ?_
   cases hs' : names.any fun y => same x.1 y with
   | true =>
    refine go_f rfl ?_
    repeat rw [vokl]
    simp [Tr.val]
   | false =>
    refine go_t rfl ?_
    repeat (first
     | refine go_chk (by omega) ?_
     | refine go_chk (by simp; omega) ?_
     | refine go_chk (by simp) ?_
     | rw [vokl])
    simp [Tr.val]
  ·intro o _
   unfold ref1_Without.L3.t
   dsimp only
   exact go_f (by simp) rfl
  ·rw [foldE_filter]
   rfl
 unfold ref1_Without.f ref1_Without.t
 repeat rw [vokl]
 exact go_call hL rfl
theorem rFind_f {l : Fs} {name : Bs} (h : FitF l) (hname : name.length ≤ 1000000) : ref1_Find.f l name = some (findS l name) := by
 have hlen := h.1
 have hL : ref1_Find.L3.f l [] name 0 = some (findS l name) := by
  unfold ref1_Find.L3.f
  refine (Loop_list (A := List Bs) (a := []) l (fun k o => (o, (k : Int))) (fun k o => o.length ≤ k) (fun o x => .inl (o ++ if same x.1 name = true then [x.2] else [])) id ?_ ?_ (by omega) (by simp) rfl).trans ?_
  ·intro k o x ho hk hx
   have hw := wS (k := k) (by omega)
   have hx' := h.2 x (by rw [← hx]; exact List.getElem_mem hk)
   have hsm := rSame_f (a := x.1) (b := name) (by omega) (by omega)
   refine ⟨?_, fun a' h => by cases h; split <;> simp <;> omega⟩
   unfold ref1_Find.L3.t
   dsimp only
   rw [hw]
   simp only [Nat.zero_add, getD_at hk hx]
   refine go_t (by rw [decide_eq_true_iff]; omega) (go_chk (by omega) (go_chk (by simpa using hk) (go_call hsm ?_)))
   cases hs : same x.1 name with
   | true =>
    refine go_t rfl ?_
    repeat (first
     | refine go_chk (by omega) ?_
     | refine go_chk (by simp; omega) ?_
     | refine go_chk (by simp) ?_
     | rw [vokl])
    simp [Tr.val]
   | false =>
    refine go_f rfl ?_
    repeat rw [vokl]
    simp [Tr.val]
  ·intro o _
   unfold ref1_Find.L3.t
   dsimp only
   exact go_f (by simp) rfl
  ·congr 1
   rw [gather]
   unfold findS
   clear h hlen
   induction l with
   | nil => rfl
   | cons x l ih =>
    simp only [List.nil_append, List.flatMap_cons] at ih ⊢
    rw [ih, List.filter_cons]
    split <;> simp
 unfold ref1_Find.f ref1_Find.t
 rw [vokl]
 exact go_call hL rfl
theorem rList_in {values out t15 : List Bs} (h1 : ∀ x ∈ t15, x.length ≤ 1000000) (h2 : out.length + t15.length ≤ 4398046511104) : ref1_List.L7.f values out t15 0 = some (out ++ t15.map trim) := by
 unfold ref1_List.L7.f
 refine (Loop_list (A := List Bs) (a := out) t15 (fun k o => (o, (k : Int))) (fun k o => o.length = out.length + k) (fun o x => .inl (o ++ [trim x])) id ?_ ?_ (by omega) (by simp) rfl).trans ?_
 ·intro k o x ho hk hx
  have hw := wS (k := k) (by omega)
  have hx' := h1 x (by rw [← hx]; exact List.getElem_mem hk)
  refine ⟨?_, fun a' h => by cases h; simp [ho]; omega⟩
  unfold ref1_List.L7.t
  dsimp only
  rw [hw]
  simp only [Nat.zero_add, getD_at hk hx]
  refine go_t (by rw [decide_eq_true_iff]; omega) (go_chk (by omega) (go_chk (by simpa using hk) (go_call (rTrim_f (by omega)) ?_)))
  repeat (first
   | refine go_chk (by omega) ?_
   | refine go_chk (by simp; omega) ?_
   | refine go_chk (by simp) ?_
   | rw [vokl])
  simp [Tr.val]
 ·intro o _
  unfold ref1_List.L7.t
  dsimp only
  exact go_f (by simp) rfl
 ·congr 1
  have := gather (fun x => [trim x]) t15 out
  rw [this, flatMap_one]
theorem rList_f {values : List Bs} (h1 : values.length ≤ 1000000) (h2 : ∀ x ∈ values, x.length ≤ 1000000) : ref1_List.f values = some (listS values) := by
 have hll := listS_len values 1000000 h2
 have hL : ref1_List.L3.f values [] 0 = some (listS values) := by
  unfold ref1_List.L3.f
  refine (Loop_list (A := List Bs) (a := []) values (fun k o => (o, (k : Int))) (fun k o => o = listS (values.take k)) (fun o x => .inl (o ++ (splitC 44 x).map trim)) id ?_ ?_ (by omega) (by simp [listS]) rfl).trans ?_
  ·intro k o x ho hk hx
   have hw := wS (k := k) (by omega)
   have hx' : x.length ≤ 1000000 := h2 x (by rw [← hx]; exact List.getElem_mem hk)
   have hnext : listS (values.take (k + 1)) = o ++ (splitC 44 x).map trim := by
    rw [ho, List.take_add_one, List.getElem?_eq_getElem hk, hx]
    unfold listS
    rw [List.flatMap_append]
    simp
   have hle : o.length + (splitC 44 x).length ≤ 4398046511104 := by
    have e1 : (listS (values.take (k + 1))).length ≤ (listS values).length := by
     conv => rhs; rw [← List.take_append_drop (k + 1) values]
     unfold listS
     rw [List.flatMap_append, List.length_append]
     omega
    rw [hnext] at e1
    simp at e1
    omega
   refine ⟨?_, fun a' h => by cases h; exact hnext.symm⟩
   have hfit : ∀ y ∈ splitC 44 x, y.length ≤ 1000000 := fun y hy => by
    have := splitC_small x.length (Nat.le_refl _) y hy
    omega
   unfold ref1_List.L3.t
   dsimp only
   rw [hw]
   simp only [Nat.zero_add, getD_at hk hx]
   refine go_t (by rw [decide_eq_true_iff]; omega) (go_chk (by omega) (go_chk (by simpa using hk) ?_))
   refine go_call (ref1_Split_f (c := 44) (by omega)) ?_
   repeat rw [vokl]
   refine go_call (rList_in hfit hle) ?_
   repeat rw [vokl]
   rfl
  ·intro o _
   unfold ref1_List.L3.t
   dsimp only
   exact go_f (by simp) rfl
  ·congr 1
   have := gather (fun x => (splitC 44 x).map trim) values []
   rw [this]
   rfl
 unfold ref1_List.f ref1_List.t
 rw [vokl]
 exact go_call hL rfl
def namedS (l : Fs) : List Bs := (listS (findS l connB)).filter fun s => !pS s
def stripS (l : Fs) : Fs := withoutS l (namesL ++ namedS l)
theorem rNames_f : ref17_Names.f = some namesL := by decide +kernel
def FitS (l : Fs) : Prop := l.length ≤ 20 ∧ ∀ f ∈ l, f.1.length ≤ 120 ∧ f.2.length ≤ 120
theorem FitS.fit {l : Fs} (h : FitS l) : FitF l := ⟨by have := h.1; omega, fun f hf => by have := h.2 f hf; omega⟩
theorem named_fit {l : Fs} (h : FitS l) : (listS (findS l connB)).length ≤ 2420 ∧ ∀ x ∈ listS (findS l connB), x.length ≤ 120 := by
 have hx : ∀ x ∈ findS l connB, x.length ≤ 120 := fun x hx => by
  unfold findS at hx
  obtain ⟨f, hf, rfl⟩ := List.mem_map.1 hx
  exact (h.2 f (List.mem_filter.1 hf).1).2
 have h1 : (findS l connB).length ≤ 20 := by
  unfold findS
  rw [List.length_map]
  exact Nat.le_trans (List.length_filter_le _ _) h.1
 have h2 := listS_len (findS l connB) 120 hx
 exact ⟨by omega, listS_small _ _ hx⟩
theorem rStrip_f {l : Fs} (h : FitS l) : ref17_Strip.f l = some (stripS l) := by
 obtain ⟨hn, hs⟩ := named_fit h
 have hnm := names_f
 have hfind : (findS l connB).length ≤ 1000000 ∧ ∀ x ∈ findS l connB, x.length ≤ 1000000 := findS_fit h.fit
 generalize hN : listS (findS l connB) = N at hn hs
 have hL : ref17_Strip.L4.f l namesL N 0 = some (namesL ++ N.filter fun s => !pS s) := by
  unfold ref17_Strip.L4.f
  refine (Loop_list (A := List Bs) (a := namesL) N (fun k o => (o, (k : Int))) (fun k o => o.length ≤ 20 + k) (fun o x => .inl (o ++ if (!pS x) = true then [x] else [])) id ?_ ?_ (by omega) (by have := hnm.2.1; simpa using this) rfl).trans ?_
  ·intro k o x ho hk hx
   have hw := wS (k := k) (by omega)
   have hx' := hs x (by rw [← hx]; exact List.getElem_mem hk)
   have s1 := rSame_f (a := x) (b := hostB) (by omega) (by decide)
   have s2 := rSame_f (a := x) (b := clB) (by omega) (by decide)
   refine ⟨?_, fun a' h => by cases h; split <;> simp <;> omega⟩
   unfold ref17_Strip.L4.t pS
   dsimp only
   rw [hw]
   simp only [Nat.zero_add, getD_at hk hx]
   refine go_t (by rw [decide_eq_true_iff]; omega) (go_chk (by omega) (go_chk (by simpa using hk) (go_call s1 ?_)))
   cases e1 : same x hostB with
   | true =>
    refine go_f rfl ?_
    repeat rw [vokl]
    simp [Tr.val]
   | false =>
    refine go_t rfl (go_chk (by omega) (go_chk (by simpa using hk) (go_call s2 ?_)))
    cases e2 : same x clB with
    | true =>
     refine go_f rfl ?_
     repeat rw [vokl]
     simp [Tr.val]
    | false =>
     refine go_t rfl ?_
     repeat (first
      | refine go_chk (by omega) ?_
      | refine go_chk (by simp; omega) ?_
      | refine go_chk (by simp) ?_
      | rw [vokl])
     simp [Tr.val]
  ·intro o _
   unfold ref17_Strip.L4.t
   dsimp only
   exact go_f (by simp) rfl
  ·rw [foldE_filter]
 have hfin : ref1_Without.f l (namesL ++ N.filter fun s => !pS s) = some (stripS l) := by
  have := List.length_filter_le (fun s => !pS s) N
  rw [rWithout_f h.fit (by rw [List.length_append]; have := hnm.2.1; omega) fun x hx => by
   rcases List.mem_append.1 hx with hx | hx
   ·have := hnm.2.2 x hx; omega
   ·have := hs x (List.mem_filter.1 hx).1; omega]
  unfold stripS namedS
  rw [hN]
 unfold ref17_Strip.f ref17_Strip.t
 refine go_call rNames_f (go_chk (by omega) ?_)
 have hfn : ref1_Find.f l [67, 111, 110, 110, 101, 99, 116, 105, 111, 110] = some (findS l connB) := rFind_f (name := connB) h.fit (by decide)
 have hls : ref1_List.f (findS l connB) = some N := by rw [rList_f hfind.1 hfind.2, hN]
 refine go_call (by rw [take_all]; exact hfn) (go_chk (by omega) ?_)
 refine go_call (by rw [take_all]; exact hls) ?_
 repeat rw [vokl]
 refine go_call hL (go_chk (by omega) (go_chk (by omega) ?_))
 refine go_call (by rw [take_all, take_all]; exact hfin) ?_
 rfl
theorem rVia_f {l : Fs} {name : Bs} (h : l.length ≤ 1000000) (hn : name.length ≤ 1000000) : ref17_Via.f l name = some (l ++ [([86, 105, 97], [49, 46, 49, 32] ++ name)]) := by
 have hw : ref17_with.f l [86, 105, 97] ([49, 46, 49, 32] ++ name) = some (l ++ [([86, 105, 97], [49, 46, 49, 32] ++ name)]) := by
  unfold ref17_with.f ref17_with.t
  repeat (first
   | refine go_chk (by omega) ?_
   | refine go_chk (by simp; omega) ?_
   | refine go_chk (by simp) ?_
   | rw [vokl])
  simp [Tr.val]
 unfold ref17_Via.f ref17_Via.t
 refine go_chk (by simp; omega) (go_chk (by omega) ?_)
 refine go_call (by rw [take_all]; exact hw) ?_
 rfl
theorem rPut9_f {l : Fs} (h : l.length ≤ 10000) (hs : ∀ f ∈ l, f.1.length ≤ 1000000 ∧ f.2.length ≤ 1000000) : ref9_Put.f l = some (putS l) := by
 have hL : ref9_Put.L3.f l [] 0 = some (putS l) := by
  unfold ref9_Put.L3.f
  refine (Loop_list (A := Bs) (a := []) l (fun k o => (o, (k : Int))) (fun k o => o.length ≤ 3000000 * k) (fun o f => .inl (o ++ lineF f)) id ?_ ?_ (by omega) (by simp) rfl).trans ?_
  ·intro k o f ho hk hf
   have hw := wS (k := k) (by omega)
   have hf' := hs f (by rw [← hf]; exact List.getElem_mem hk)
   have hll := lineF_len f
   refine ⟨?_, fun a' h => by cases h; rw [List.length_append, hll]; omega⟩
   unfold ref9_Put.L3.t
   dsimp only
   rw [hw]
   simp only [Nat.zero_add, getD_at hk hf]
   refine go_t (by rw [decide_eq_true_iff]; omega) ?_
   repeat (first
    | refine go_chk (by omega) ?_
    | refine go_chk (by simp only [List.length_append, List.length_cons, List.length_nil]; omega) ?_
    | rw [vokl])
   show some _ = some _
   simp [lineF]
  ·intro o _
   unfold ref9_Put.L3.t
   dsimp only
   exact go_f (by simp) rfl
  ·rw [gather]
   rfl
 unfold ref9_Put.f ref9_Put.t
 rw [vokl]
 exact go_call hL rfl
theorem rRight27_f {F : Fs} {body : Bs} {c : Int} (h : FitF F) : ref27_Right.f F body c = some (rightS F c) := by
 have hlen := h.1
 have hL : ref27_Right.L2.f F body 0 = some (if (F.all fun f => fieldR f.1 f.2) = true then .inl () else .inr false) := by
  unfold ref27_Right.L2.f
  refine (Loop_scan F (fun _ f => if fieldR f.1 f.2 = true then none else some (Sum.inr false : Unit ⊕ Bool)) (.inl ()) (fun i f hk hf => ?_) ?_ (by omega)).trans (by rw [scan_all])
  ·have hw := wS (k := i) (by omega)
   have hf' := h.2 f (by rw [← hf]; exact List.getElem_mem hk)
   have hr := rRight_f (name := f.1) (value := f.2) hf'.1 hf'.2
   unfold ref27_Right.L2.t
   rw [hw]
   simp only [Nat.zero_add, getD_at hk hf]
   refine go_t (by rw [decide_eq_true_iff]; omega) (go_chk (by omega) (go_chk (by simpa using hk) (go_call hr ?_)))
   cases e : fieldR f.1 f.2
   ·exact go_t rfl rfl
   ·refine go_f rfl ?_
    repeat rw [vokl]
    rfl
  ·unfold ref27_Right.L2.t
   refine go_f (by simp) ?_
   repeat rw [vokl]
   rfl
 unfold ref27_Right.f ref27_Right.t rightS
 repeat rw [vokl]
 rw [hL, ← List.all_eq_not_any_not]
 cases (F.all fun f => fieldR f.1 f.2) <;> cases h1 : decide (200 ≤ c) <;> simp [Tr.val, h1]
def codesL : List Int := [200, 204, 301, 302, 307, 308, 400, 401, 403, 404, 405, 413, 414, 429, 431, 501, 503, 505]
theorem reason_all : (codesL.all fun c => ref27_Reason.f c == some (rs c)) = true := by decide +kernel
theorem getR_key {n : Int} {s : ByteArray} : ∀ {l : List (Int × ByteArray)}, getR l n = some s → ∃ p ∈ l, p.1 = n
 | [], h => by cases h
 | p :: l, h => by
  unfold getR at h
  split at h
  ·rename_i e
   exact ⟨p, List.mem_cons_self .., by simpa using e.symm⟩
  ·obtain ⟨q, hq, e⟩ := getR_key h
   exact ⟨q, List.mem_cons_of_mem _ hq, e⟩
theorem tab_keys : (tabR.all fun p => codesL.contains p.1) = true := by decide +kernel
theorem rReason_f (c : Int) : ref27_Reason.f c = some (rs c) := by
 by_cases hc : c ∈ codesL
 ·simpa using List.all_eq_true.1 reason_all c hc
 ·have hr : rs c = [79, 116, 104, 101, 114] := by
   unfold rs
   cases h : getR tabR c with
   | none => rfl
   | some s =>
    obtain ⟨p, hp, e⟩ := getR_key h
    have := List.all_eq_true.1 tab_keys p hp
    rw [e] at this
    exact absurd (by simpa using this) hc
  rw [hr]
  unfold ref27_Reason.f ref27_Reason.t
  have hL : ∀ W : List Bs, ref27_Reason.L4.f codesL W c 0 = some (.inl ()) := fun W => by
   unfold ref27_Reason.L4.f
   refine Loop_count 18 (fun k => (k : Int)) _ (fun k hk => ?_) ?_ (by omega) rfl
   ·have hw := wS (k := k) (by omega)
    have hk' : k < codesL.length := hk
    have hne : (codesL.getD k 0 == c) = false := by
     rw [List.getD_eq_getElem?_getD, List.getElem?_eq_getElem hk', Option.getD_some]
     simp only [beq_eq_false_iff_ne]
     intro e
     exact hc (e ▸ List.getElem_mem hk')
    unfold ref27_Reason.L4.t
    rw [hw]
    simp only [Int.toNat_natCast, Nat.zero_add]
    refine go_t (by rw [decide_eq_true_iff]; exact Int.ofNat_lt.2 hk) (go_chk ⟨by omega, Int.ofNat_lt.2 hk⟩ (go_chk hk' (go_f hne ?_)))
    repeat rw [vokl]
    rfl
   ·unfold ref27_Reason.L4.t
    exact go_f rfl rfl
  show (Tr.both (ref27_Reason.L4.f codesL _ c 0) _ _).val = _
  rw [hL]
  rfl
end Pl
end Go.Vx
end
section
set_option linter.unusedVariables false
set_option linter.unusedSimpArgs false
set_option maxRecDepth 100000
namespace Go.Vx
namespace Pl
open Go Go.Proofs
theorem known_f : law27_known.f = some true := by decide +kernel
theorem del_f {l : List Bs} (hn : l.length ≤ 1000000) (hs : ∀ x ∈ l, x.length ≤ 1000000) : ∃ a, slices_DeleteFunc_f_hop_Strip_1.f l = some (a, 0, (l.filter fun s => !pS s).length) ∧ (l.filter fun s => !pS s).length ≤ a.length ∧ a.take (l.filter fun s => !pS s).length = l.filter fun s => !pS s := by
 have hi := idxStrip_f (l := l) (by omega) hs
 rw [idx_scan] at hi
 unfold slices_DeleteFunc_f_hop_Strip_1.f slices_DeleteFunc_f_hop_Strip_1.t
 by_cases ha : l.any pS = true
 ·rw [if_pos ha, Nat.zero_add] at hi
  obtain ⟨x, hx, hpx⟩ := List.any_eq_true.1 ha
  have h0 : l.findIdx pS < l.length := List.findIdx_lt_length_of_exists ⟨x, hx, hpx⟩
  have hp : pS l[l.findIdx pS] = true := List.findIdx_getElem
  have hb : ∀ s ∈ l.take (l.findIdx pS), pS s = false := fun s hs' => by
   obtain ⟨i, hi', rfl⟩ := List.getElem_of_mem hs'
   have hlt : i < l.findIdx pS := by
    rw [List.length_take] at hi'
    omega
   rw [List.getElem_take]
   simpa using List.not_of_lt_findIdx hlt
  have hd := del_loop (l := l) (i0 := l.findIdx pS) (by omega) hs h0 hp hb
  have hk := kept_lt h0 hp (l.length - (l.findIdx pS + 1)) (by omega)
  rw [show l.findIdx pS + 1 + (l.length - (l.findIdx pS + 1)) = l.length by omega] at hk
  have hkept : keptT l l.length = l.filter fun s => !pS s := by unfold keptT; rw [List.take_length]
  rw [hkept] at hd hk
  generalize (l.filter fun s => !pS s) = K at hd hk ⊢
  generalize l.findIdx pS = i0 at hi h0 hd hk
  have hw : IntKind.i64.wrap ((i0 : Int) + 1) = ((i0 + 1 : Nat) : Int) := wS (by omega)
  have hlen : (K ++ l.drop K.length).length = l.length := by rw [List.length_append, List.length_drop]; omega
  refine ⟨K ++ List.replicate (l.length - K.length) [], ?_, by simp, List.take_left⟩
  refine go_chk (by omega) (go_call (by rw [take_all]; exact hi) ?_)
  refine go_f (by simp) ?_
  rw [vokl, hw]
  refine go_call hd ?_
  dsimp only
  generalize hA : K ++ l.drop K.length = A at hlen
  have hcast : (((A.length : Int)) - (K.length : Int)).toNat = l.length - K.length := by omega
  rw [hcast]
  refine go_chk (by omega) (go_chk (by omega) (go_chk (by omega) ?_))
  show some _ = some _
  have e1 : A.take K.length = K := by rw [← hA]; exact List.take_left
  have e2 : A.drop (K.length + (l.length - K.length)) = [] := List.drop_eq_nil_of_le (by omega)
  simp only [Nat.zero_add, Int.toNat_natCast, e1, e2, List.append_nil]
  simp
 ·rw [if_neg ha] at hi
  have hf : (l.filter fun s => !pS s) = l := List.filter_eq_self.2 fun s hs' => by
   cases h : pS s
   ·rfl
   ·exact absurd (List.any_eq_true.2 ⟨s, hs', h⟩) ha
  rw [hf]
  refine ⟨l, ?_, Nat.le_refl _, List.take_length⟩
  refine go_chk (by omega) (go_call (by rw [take_all]; exact hi) ?_)
  exact go_t rfl rfl
theorem stripG_f {F : Fs} (h : FitS F) : hop_Strip.f F = some (stripS F) := by
 obtain ⟨hn, hs⟩ := named_fit h
 have hff := findS_fit (name := connB) h.fit
 obtain ⟨a, hd, ha1, ha2⟩ := del_f (l := listS (findS F connB)) (by omega) fun x hx => by have := hs x hx; omega
 have hK : (namedS F).length ≤ 2420 := by
  unfold namedS
  have := List.length_filter_le (fun s => !pS s) (listS (findS F connB))
  omega
 have hKs : ∀ x ∈ namedS F, x.length ≤ 120 := fun x hx => hs x (List.mem_filter.1 hx).1
 have hnm := names_f
 have hlen := hnm.2.1
 change slices_DeleteFunc_f_hop_Strip_1.f (listS (findS F connB)) = some (a, 0, (namedS F).length) at hd
 change (namedS F).length ≤ a.length at ha1
 change a.take (namedS F).length = namedS F at ha2
 have hW : text_Without.f F (namesL ++ namedS F) = some (stripS F) :=
  without_f h.fit (by rw [List.length_append]; omega) fun x hx => by
   rcases List.mem_append.1 hx with hx | hx
   ·have := hnm.2.2 x hx; omega
   ·have := hKs x hx; omega
 generalize namedS F = K at *
 unfold hop_Strip.f hop_Strip.t
 simp only [Nat.zero_add, Nat.add_zero, List.drop_zero, List.take_length]
 refine go_chk (Nat.le_refl _) (go_call (find_f h.fit (by decide)) ?_)
 refine go_chk (Nat.le_refl _) (go_call (list_f hff.1 hff.2) ?_)
 rw [vokl]
 refine go_call hd ?_
 dsimp only
 refine go_call hnm.1 ?_
 simp only [List.drop_zero, Nat.zero_add, ha2]
 refine go_chk (by omega) (go_chk (Nat.le_refl _) (go_chk (by omega) (go_chk (Nat.le_refl _) (go_chk (by simp) ?_))))
 refine go_call (by rw [take_app]; exact hW) ?_
 rfl
theorem strip_len (F : Fs) : (stripS F).length ≤ F.length := List.length_filter_le _ _
def viaF (name : Bs) : Bs × Bs := ([86, 105, 97], [49, 46, 49, 32] ++ name)
theorem relay_f {F : Fs} {body name : Bs} (h : FitS F) (hn : name.length ≤ 1000000) : reply_Relay.f F body name = some (stripS F ++ [viaF name]) := by
 have := strip_len F
 have := h.1
 unfold reply_Relay.f reply_Relay.t
 refine go_chk (by omega) (go_call (by rw [take_all]; exact stripG_f h) ?_)
 refine go_chk (by omega) (go_call (by rw [take_all]; exact via_f (by omega) hn) ?_)
 rfl
theorem rRelay_f {F : Fs} {body name : Bs} (h : FitS F) (hn : name.length ≤ 1000000) : ref27_Relay.f F body name = some (stripS F ++ [viaF name]) := by
 have := strip_len F
 have := h.1
 unfold ref27_Relay.f ref27_Relay.t
 refine go_chk (by omega) (go_call (by rw [take_all]; exact rStrip_f h) ?_)
 refine go_chk (by omega) (go_call (by rw [take_all]; exact rVia_f (by omega) hn) ?_)
 rfl
theorem fields_same {l : Fs} (hl : l.length < 1000000000) : ref1_Fields.f l l = some true := by
 have hL : ref1_Fields.L4.f l l 0 = some (.inl ()) := by
  unfold ref1_Fields.L4.f
  refine Loop_count l.length (fun k => (k : Int)) _ (fun k hk => ?_) ?_ (by omega) rfl
  ·unfold ref1_Fields.L4.t
   have hw := wS (k := k) (by omega)
   refine go_t (by rw [decide_eq_true_iff]; omega) ?_
   refine go_chk (by omega) (go_chk (by omega) (go_chk (by omega) (go_chk (by omega) ?_)))
   refine go_f (by simp) ?_
   rw [vokl, vokl, hw]
   rfl
  ·unfold ref1_Fields.L4.t
   exact go_f (by simp) rfl
 unfold ref1_Fields.f ref1_Fields.t
 refine go_f (by simp) ?_
 rw [vokl, vokl, Tr.val_inl hL]
 rfl
theorem sameReply_f {F : Fs} {body : Bs} {c : Int} (hl : F.length < 1000000000) : ref25_SameReply.f F body F body c c = some true := by
 unfold ref25_SameReply.f ref25_SameReply.t
 refine go_t (by simp) (go_chk (by omega) (go_chk (by omega) ?_))
 refine go_call (by rw [take_all]; exact fields_same hl) ?_
 refine go_t rfl (go_chk (by omega) (go_chk (by omega) ?_))
 show some _ = some _
 simp
set_option maxHeartbeats 4000000 in
theorem rput_aux {F L : Fs} {body A B N q1 q2 q3 q4 : Bs} {c : Int} {head closes : Bool} (hR : ref27_Right.f F body c = some true) (hW : ref1_Without.f F hopN = some L) (hA : ref1_Put.f c = some A) (hN : ref1_Put.f (body.length : Int) = some N)
  (hB : ref27_Reason.f c = some B) (h1 : ref9_Put.f L = some q1) (h2 : ref9_Put.f (L ++ [(clB, N)]) = some q2) (h3 : ref9_Put.f (L ++ [(connB, closeB)]) = some q3) (h4 : ref9_Put.f (L ++ [(clB, N)] ++ [(connB, closeB)]) = some q4)
  (lA : A.length ≤ 10) (lB : B.length ≤ 100) (lb : body.length ≤ 1000) (lL : L.length ≤ 1000000) (lF : F.length ≤ 1000000) (k1 : q1.length ≤ 10000000000) (k2 : q2.length ≤ 10000000000) (k3 : q3.length ≤ 10000000000) (k4 : q4.length ≤ 10000000000) :
  ref27_Put.f F body c head closes = some (protoB ++ A ++ [32] ++ B ++ [13, 10] ++ (if noneS c = true then (if closes = true then q3 else q1) else (if closes = true then q4 else q2)) ++ [13, 10] ++ (if (noneS c || head) = true then [] else body)) := by
 have hc : ([67, 111, 110, 110, 101, 99, 116, 105, 111, 110] : Bs) = connB := rfl
 have hcl : ([67, 111, 110, 116, 101, 110, 116, 45, 76, 101, 110, 103, 116, 104] : Bs) = clB := rfl
 have hte : ([84, 114, 97, 110, 115, 102, 101, 114, 45, 69, 110, 99, 111, 100, 105, 110, 103] : Bs) = teB := rfl
 have hcb : ([99, 108, 111, 115, 101] : Bs) = closeB := rfl
 have hpr : ([72, 84, 84, 80, 47, 49, 46, 49, 32] : Bs) = protoB := rfl
 have hho : [clB, teB, connB] = hopN := rfl
 have lp : protoB.length = 9 := rfl
 unfold ref27_Put.f ref27_Put.t noneS
 simp only [hc, hcl, hte, hcb, hpr, hho, Nat.zero_add, List.drop_zero, List.take_length, List.nil_append, Int.toNat_natCast, Nat.mul_one, take_one, take_snoc, take_snoc2, take_app]
 generalize (c == 204) = b1
 generalize (c == 304) = b2
 refine go_chk (Nat.le_refl _) (go_chk (Nat.le_refl _) (go_call hR (go_f rfl ?_)))
 generalize hopN = hop at hW ⊢
 generalize protoB = pr at lp ⊢
 generalize clB = cl at h2 h4 ⊢
 generalize connB = cn at h3 h4 ⊢
 generalize closeB = cb at h3 h4 ⊢
 cases b1 <;> cases b2 <;> cases head <;> cases closes <;>
  simp only [Bool.not_true, Bool.not_false, Bool.or_true, Bool.true_or, Bool.or_false, Bool.false_or, if_true, Bool.false_eq_true, if_false] <;>
  repeat' (first
   | rw [vtrue]
   | rw [vfalse]
   | rw [vokl]
   | with_reducible refine go_call hW ?_
   | with_reducible refine go_call hA ?_
   | with_reducible refine go_call hN ?_
   | with_reducible refine go_call hB ?_
   | with_reducible refine go_call h1 ?_
   | with_reducible refine go_call h2 ?_
   | with_reducible refine go_call h3 ?_
   | with_reducible refine go_call h4 ?_
   | with_reducible refine go_chk ?_ ?_
   | omega
   | exact ⟨trivial, trivial⟩
   | exact ⟨trivial, (List.length_append ..).symm⟩
   | (simp only [List.length_append, List.length_cons, List.length_nil, lp]; omega)
   | (simp only [List.length_append, List.length_cons, List.length_nil, lp, true_and]; omega)
   | (show some _ = some _; simp only [List.append_assoc, List.append_nil]; done)
   | (show some _ = some _; simp [List.append_assoc]; done))
theorem both_put {F : Fs} {body : Bs} {c : Int} {head closes : Bool} (h : FitS F) (hb : body.length ≤ 100) : ∃ y, reply_Put.f F body c head closes = some y ∧ ref27_Put.f F body c head closes = some y := by
 have hR := replyRight_f (c := c) h.fit
 have hR' := rRight27_f (body := body) (c := c) h.fit
 have hF := h.1
 cases hr : rightS F c with
 | false =>
  rw [hr] at hR hR'
  refine ⟨[], ?_, ?_⟩
  ·unfold reply_Put.f reply_Put.t
   refine go_chk (by omega) (go_chk (by omega) (go_call (by rw [take_all]; exact hR) ?_))
   exact go_t rfl rfl
  ·unfold ref27_Put.f ref27_Put.t
   refine go_chk (by omega) (go_chk (by omega) (go_call (by rw [take_all, take_all]; exact hR') ?_))
   exact go_t rfl rfl
 | true =>
  rw [hr] at hR hR'
  have hcr : 200 ≤ c ∧ c ≤ 599 := by
   unfold rightS at hr
   simp only [Bool.and_eq_true, decide_eq_true_eq] at hr
   exact hr.1
  obtain ⟨P, rfl⟩ : ∃ P : Nat, c = (P : Int) := ⟨c.toNat, by omega⟩
  obtain ⟨hA1, hA2, lA⟩ := pv_f (k := P) (by omega)
  obtain ⟨hN1, hN2, lN⟩ := pv_f (k := body.length) (by omega)
  obtain ⟨hB1, lB⟩ := rs_f (P : Int)
  have hB2 := rReason_f (P : Int)
  have hW := without_f (l := F) (names := hopN) h.fit (by decide) (by decide)
  have hW' := rWithout_f (l := F) (names := hopN) h.fit (by decide) (by decide)
  have hLl : (withoutS F hopN).length ≤ F.length := List.length_filter_le _ _
  have hLs : ∀ f ∈ withoutS F hopN, f.1.length ≤ 120 ∧ f.2.length ≤ 120 := fun f hf => h.2 f (List.mem_filter.1 hf).1
  generalize withoutS F hopN = L at *
  generalize pv P = A at *
  generalize pv body.length = N at *
  generalize rs (P : Int) = B at *
  have hlen : ∀ M : Fs, (∀ f ∈ M, f.1.length ≤ 120 ∧ f.2.length ≤ 120) → M.length ≤ 22 → field_Put.f M = some (putS M) ∧ ref9_Put.f M = some (putS M) ∧ (putS M).length ≤ 10000 := fun M h1 h2 => by
   refine ⟨fieldPut_f (by omega) fun f hf => by have := h1 f hf; omega, rPut9_f (by omega) fun f hf => by have := h1 f hf; omega, ?_⟩
   have := putS_len (l := M) (M := 244) fun f hf => by have := h1 f hf; omega
   omega
  have hin : ∀ (X : Fs) (f : Bs × Bs), (∀ g ∈ X, g.1.length ≤ 120 ∧ g.2.length ≤ 120) → f.1.length ≤ 120 ∧ f.2.length ≤ 120 → ∀ g ∈ X ++ [f], g.1.length ≤ 120 ∧ g.2.length ≤ 120 := fun X f h1 h2 g hg => by
   rcases List.mem_append.1 hg with hg | hg
   ·exact h1 g hg
   ·simp only [List.mem_cons, List.not_mem_nil, or_false] at hg
    subst hg
    exact h2
  have i2 := hin L (clB, N) hLs ⟨by show clB.length ≤ 120; decide, by show N.length ≤ 120; omega⟩
  have i3 := hin L (connB, closeB) hLs ⟨by decide, by decide⟩
  have i4 := hin _ (connB, closeB) i2 ⟨by decide, by decide⟩
  obtain ⟨f1, g1, k1⟩ := hlen L hLs (by omega)
  obtain ⟨f2, g2, k2⟩ := hlen _ i2 (by simp; omega)
  obtain ⟨f3, g3, k3⟩ := hlen _ i3 (by simp; omega)
  obtain ⟨f4, g4, k4⟩ := hlen _ i4 (by simp; omega)
  exact ⟨_, put_aux hR hW hA2 hN2 hB1 f1 f2 f3 f4 (by omega) lB (by omega) (by omega) (by omega) (by omega) (by omega) (by omega) (by omega), rput_aux hR' hW' hA1 hN1 hB2 g1 g2 g3 g4 (by omega) lB (by omega) (by omega) (by omega) (by omega) (by omega) (by omega) (by omega)⟩
theorem helpFields_f {l : Fs} (hs : ∀ f ∈ l, f.1.length ≤ 140737488351232 ∧ f.2.length ≤ 140737488351232) : ∃ b, help_Fields.f l = some b ∧ (b = true → FitS l) := by
 unfold help_Fields.f help_Fields.t
 by_cases hl : l.length ≤ 20
 ·have hL : help_Fields.L4.f l 0 = some (if (l.all fun f => decide (f.1.length + f.2.length ≤ 120)) = true then .inl () else .inr false) := by
   unfold help_Fields.L4.f
   refine (Loop_scan l (fun _ f => if decide (f.1.length + f.2.length ≤ 120) = true then none else some (Sum.inr false : Unit ⊕ Bool)) (.inl ()) (fun i f hk hf => ?_) ?_ (by omega)).trans (by rw [scan_all])
   ·have hw := wS (k := i) (by omega)
    have hf' := hs f (by rw [← hf]; exact List.getElem_mem hk)
    have hsum : IntKind.i64.wrap ((f.1.length : Int) + (f.2.length : Int)) = ((f.1.length + f.2.length : Nat) : Int) := by rw [w64 (by omega) (by omega)]; omega
    unfold help_Fields.L4.t
    rw [hw]
    simp only [Nat.zero_add, getD_at hk hf]
    rw [hsum]
    refine go_t (by rw [decide_eq_true_iff]; omega) (go_chk (by omega) (go_chk (by simpa using hk) (go_chk (by omega) (go_chk (by simpa using hk) ?_))))
    by_cases e : f.1.length + f.2.length ≤ 120
    ·rw [decide_eq_true e, if_pos rfl]
     refine go_f (by rw [decide_eq_false_iff_not]; omega) ?_
     repeat rw [vokl]
     rfl
    ·rw [decide_eq_false e, if_neg (by decide)]
     exact go_t (by rw [decide_eq_true_iff]; omega) rfl
   ·unfold help_Fields.L4.t
    exact go_f (by simp) rfl
  refine ⟨l.all fun f => decide (f.1.length + f.2.length ≤ 120), go_f (by rw [decide_eq_false_iff_not]; omega) ?_, fun h => ⟨hl, fun f hf => by have := List.all_eq_true.1 h f hf; rw [decide_eq_true_iff] at this; omega⟩⟩
  rw [vokl, hL]
  cases (l.all fun f => decide (f.1.length + f.2.length ≤ 120)) <;> rfl
 ·exact ⟨false, go_t (by rw [decide_eq_true_iff]; omega) rfl, fun h => by cases h⟩
def tab6 : Fs := [([65], [98]), ([99, 111, 110, 116, 101, 110, 116, 45, 108, 101, 110, 103, 116, 104], [57]), ([67, 111, 110, 110, 101, 99, 116, 105, 111, 110], [65]), ([84, 114, 97, 110, 115, 102, 101, 114, 45, 69, 110, 99, 111, 100, 105, 110, 103], [99, 104, 117, 110, 107, 101, 100]), ([85, 112, 103, 114, 97, 100, 101], [120]), ([66], [32, 99])]
theorem tab6_fit {r : Nat} (h : r < 6) : (tab6.getD r ([], [])).1.length ≤ 120 ∧ (tab6.getD r ([], [])).2.length ≤ 120 := by
 have : (List.range 6).all (fun r => decide ((tab6.getD r ([], [])).1.length ≤ 120 ∧ (tab6.getD r ([], [])).2.length ≤ 120)) = true := by decide +kernel
 simpa using List.all_eq_true.1 this r (List.mem_range.2 h)
theorem made_f {l : Bs} (hl : l.length ≤ 10) : ∃ F, law27_ReplyTells.L7.f [] l 0 = some F ∧ FitS F := by
 refine ⟨l.flatMap fun c => [tab6.getD (c.toNat % 6) ([], [])], ?_, ?_⟩
 ·unfold law27_ReplyTells.L7.f
  refine (Loop_list (A := Fs) (a := []) l (fun k o => (o, (k : Int))) (fun k o => o.length = k) (fun o c => .inl (o ++ [tab6.getD (c.toNat % 6) ([], [])])) id ?_ ?_ (by omega) rfl rfl).trans ?_
  ·intro k o c ho hk hc
   have hw := wS (k := k) (by omega)
   have hm : ((c.toNat : Nat) : Int).tmod 6 = ((c.toNat % 6 : Nat) : Int) := (Int.ofNat_tmod c.toNat 6).symm
   have h6 : c.toNat % 6 < 6 := Nat.mod_lt _ (by decide)
   have ht : ∀ r, ([([65], [98]), ([99, 111, 110, 116, 101, 110, 116, 45, 108, 101, 110, 103, 116, 104], [57]), ([67, 111, 110, 110, 101, 99, 116, 105, 111, 110], [65]), ([84, 114, 97, 110, 115, 102, 101, 114, 45, 69, 110, 99, 111, 100, 105, 110, 103], [99, 104, 117, 110, 107, 101, 100]), ([85, 112, 103, 114, 97, 100, 101], [120]), ([66], [32, 99])] : Fs).getD r ([], []) = tab6.getD r ([], []) := fun r => rfl
   refine ⟨?_, fun a' h => by cases h; simp [ho]⟩
   unfold law27_ReplyTells.L7.t
   dsimp only
   rw [hw]
   simp only [Int.toNat_natCast, getD_nat hk hc, hm, Nat.zero_add, ht]
   refine go_t (by rw [decide_eq_true_iff]; omega) ?_
   repeat (first
    | refine go_chk (by omega) ?_
    | refine go_chk (by simp; omega) ?_
    | refine go_chk (by simp) ?_
    | rw [vokl])
   simp [Tr.val]
  ·intro o _
   unfold law27_ReplyTells.L7.t
   dsimp only
   exact go_f (by simp) rfl
  ·rw [gather]
   rfl
 ·refine ⟨by rw [flatMap_one, List.length_map]; omega, fun f hf => ?_⟩
  obtain ⟨c, _, hf⟩ := List.mem_flatMap.1 hf
  simp only [List.mem_cons, List.not_mem_nil, or_false] at hf
  subst hf
  exact tab6_fit (Nat.mod_lt _ (by decide))
theorem place_n (k : Int) {n : Nat} (h0 : 0 < n) (hn : n ≤ 1000) : ∃ P : Nat, P < n ∧ help_Place.f k (n : Int) = some (P : Int) := by
 unfold help_Place.f help_Place.t
 have hlt : k.tmod (n : Int) < n := Int.tmod_lt_of_pos k (by omega)
 have hgt : -(n : Int) < k.tmod (n : Int) := by
  have := Int.tmod_lt_of_pos (-k) (show (0 : Int) < (n : Int) by omega)
  rw [Int.neg_tmod] at this
  omega
 generalize k.tmod (n : Int) = m at *
 by_cases h : m < 0
 ·refine ⟨(m + n).toNat, by omega, ?_⟩
  repeat (first | refine go_chk (by omega) ?_ | refine go_t (by rw [decide_eq_true_iff]; exact h) ?_)
  show some _ = some _
  rw [w64 (by omega) (by omega)]
  congr 1
  omega
 ·refine ⟨m.toNat, by omega, ?_⟩
  repeat (first | refine go_chk (by omega) ?_ | refine go_f (by rw [decide_eq_false_iff_not]; exact h) ?_)
  show some _ = some _
  congr 1
  omega
theorem loop3 {T : List (Int × Fs × Bs)} {head closes : Bool} {via : Bs} (hT : T.length = 3) (hF : ∀ z ∈ T, FitS z.2.1 ∧ z.2.2.length ≤ 100) (hv : via.length ≤ 30) : law27_ReplyTells.L13.f T head closes via 3 0 = some (.inl ()) := by
 unfold law27_ReplyTells.L13.f
 refine Loop_count 3 (fun k => (k : Int)) _ (fun k hk => ?_) ?_ (by omega) rfl
 ·have hw := wS (k := k) (by omega)
  have hk' : k < T.length := by omega
  have hz : T.getD (k : Int).toNat (0, [], []) = T[k] := getD_at hk' rfl
  have hfz := hF T[k] (List.getElem_mem hk')
  unfold law27_ReplyTells.L13.t
  rw [hw]
  simp only [Nat.zero_add, hz]
  generalize T[k] = z at hfz
  obtain ⟨c, F, body⟩ := z
  obtain ⟨hfit, hb⟩ := hfz
  dsimp only at hfit hb ⊢
  obtain ⟨y, p1, p2⟩ := both_put (c := c) (head := head) (closes := closes) hfit hb
  have r1 := replyRight_f (c := c) hfit.fit
  have r2 := rRight27_f (body := body) (c := c) hfit.fit
  have e1 := relay_f (body := body) (name := via) hfit (by omega)
  have e2 := rRelay_f (body := body) (name := via) hfit (by omega)
  have hsl : (stripS F ++ [viaF via]).length < 1000000000 := by
   have := strip_len F
   have := hfit.1
   rw [List.length_append, List.length_cons, List.length_nil]
   omega
  have e3 := sameReply_f (body := body) (c := c) hsl
  generalize stripS F ++ [viaF via] = G at *
  refine go_t (by rw [decide_eq_true_iff]; omega) (go_chk (by omega) (go_chk (by omega) ?_))
  refine go_call p1 (go_chk (by omega) (go_call p2 (go_chk (by omega) (go_f (by simp) ?_))))
  refine go_call r1 (go_call r2 (go_f (by cases rightS F c <;> rfl) ?_))
  refine go_call e1 (go_chk (by omega) (go_call e2 (go_chk (by omega) (go_chk (by omega) (go_chk (by omega) ?_)))))
  refine go_call (by rw [take_all, take_all]; exact e3) (go_f rfl ?_)
  rw [vokl]
  rfl
 ·unfold law27_ReplyTells.L13.t
  exact go_f (by simp) rfl
theorem error_f (c : Int) : reply_Error.f c = some ([], rs c) := by
 have h := rs_f c
 unfold reply_Error.f reply_Error.t
 refine go_call h.1 (go_chk (by omega) (go_chk (by simp) ?_))
 rfl
theorem rError_f (c : Int) : ref27_Error.f c = some ([], rs c) := by
 have h := rs_f c
 unfold ref27_Error.f ref27_Error.t
 refine go_call (rReason_f c) (go_chk (by omega) (go_chk (by simp) ?_))
 rfl
theorem cont_f : reply_Continue.f = some (protoB ++ [49, 48, 48, 32, 67, 111, 110, 116, 105, 110, 117, 101, 13, 10, 13, 10]) ∧ ref27_Continue.f = some (protoB ++ [49, 48, 48, 32, 67, 111, 110, 116, 105, 110, 117, 101, 13, 10, 13, 10]) := ⟨rfl, rfl⟩
theorem tells_ok (Code : Int) (Fields : Fs) (Body l : Bs) (code : Int) (body : Bs) (head closes : Bool) (via : Bs) (hs : ∀ f ∈ Fields, f.1.length ≤ 140737488351232 ∧ f.2.length ≤ 140737488351232) : law27_ReplyTells.f Code Fields Body l code body head closes via = some true := by
 unfold law27_ReplyTells.f law27_ReplyTells.t
 refine go_call known_f (go_f rfl ?_)
 obtain ⟨b, hb, hfit⟩ := helpFields_f hs
 refine go_call hb ?_
 cases b with
 | false => exact go_t rfl rfl
 | true =>
  have hF0 := hfit rfl
  refine go_f rfl ?_
  by_cases h1 : Body.length ≤ 100
  ·refine go_f (by rw [decide_eq_false_iff_not]; omega) ?_
   by_cases h2 : l.length ≤ 10
   ·refine go_f (by rw [decide_eq_false_iff_not]; omega) ?_
    by_cases h3 : body.length ≤ 60
    ·refine go_f (by rw [decide_eq_false_iff_not]; omega) ?_
     by_cases h4 : via.length ≤ 30
     ·refine go_f (by rw [decide_eq_false_iff_not]; omega) ?_
      obtain ⟨P, hP, hp⟩ := place_n code (n := 400) (by omega) (by omega)
      obtain ⟨Q, hQ, hq⟩ := place_n code (n := 7) (by omega) (by omega)
      obtain ⟨F, hL, hF⟩ := made_f h2
      refine go_call hp (go_call hL (go_call hq ?_))
      simp only [Nat.zero_add, List.drop_zero, List.take_length]
      generalize IntKind.i64.wrap (200 + (P : Int)) = c1
      generalize List.getD ([200, 204, 304, 404, 503, 199, 600] : List Int) ((Q : Int).toNat * 1) 0 = c2
      have h3' : ∀ z ∈ [(Code, Fields, Body), (c1, F, body), (c2, F, body)], FitS z.2.1 ∧ z.2.2.length ≤ 100 := fun z hz => by
       simp only [List.mem_cons, List.not_mem_nil, or_false] at hz
       rcases hz with rfl | rfl | rfl
       ·exact ⟨hF0, h1⟩
       ·exact ⟨hF, by show body.length ≤ 100; omega⟩
       ·exact ⟨hF, by show body.length ≤ 100; omega⟩
      have hl3 := loop3 (head := head) (closes := closes) (via := via) rfl h3' h4
      refine go_chk (by omega) (go_chk (by omega) (go_chk (Nat.le_refl _) (go_chk (Nat.le_refl _) (go_chk (Nat.le_refl _) (go_chk (by simp) ?_)))))
      rw [Tr.val_inl hl3]
      have r1 := rs_f code
      have r2 := rs_f c1
      refine go_call r1.1 (go_call (rReason_f code) (go_t (beq_self_eq_true _) ?_))
      refine go_call r2.1 (go_call (rReason_f c1) (go_t (beq_self_eq_true _) ?_))
      refine go_call (error_f code) ?_
      dsimp only
      refine go_call (rError_f code) ?_
      dsimp only
      refine go_chk (Nat.le_refl _) (go_chk (Nat.le_refl _) (go_chk (Nat.le_refl _) (go_chk (Nat.le_refl _) ?_)))
      refine go_call (sameReply_f (by simp)) (go_t rfl ?_)
      refine go_call cont_f.1 (go_chk (Nat.le_refl _) ?_)
      refine go_call cont_f.2 (go_chk (Nat.le_refl _) ?_)
      show some _ = some _
      simp
     ·exact go_t (by rw [decide_eq_true_iff]; omega) rfl
    ·exact go_t (by rw [decide_eq_true_iff]; omega) rfl
   ·exact go_t (by rw [decide_eq_true_iff]; omega) rfl
  ·exact go_t (by rw [decide_eq_true_iff]; omega) rfl
end Pl
end Go.Vx
end
