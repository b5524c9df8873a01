/- Words of the plain laws: whole numbers, trees, loops. (A help: no statement of the seat is proved here.) -/
import Derived.Test.YtgmlklaehklmoaaVxR
set_option linter.unusedVariables false
set_option linter.unusedSimpArgs false
namespace Go.Vx

/-- Whole numbers of 64 bits. -/
theorem w64 {n : Int} (h0 : -9223372036854775808 ≤ n) (h1 : n < 9223372036854775808) : IntKind.i64.wrap n = n := by
  simp only [IntKind.wrap, IntKind.signed, IntKind.bits, if_true]
  simp
  omega
theorem w8 {n : Int} (h0 : 0 ≤ n) (h1 : n < 256) : IntKind.u8.wrap n = n := by
  simp only [IntKind.wrap, IntKind.signed, IntKind.bits]
  simp
  omega
theorem w32 {n : Int} (h0 : 0 ≤ n) (h1 : n < 4294967296) : IntKind.u32.wrap n = n := by
  simp only [IntKind.wrap, IntKind.signed, IntKind.bits]
  simp
  omega
theorem wS {k : Nat} (h : k < 4611686018427387904) : IntKind.i64.wrap ((k : Int) + 1) = ((k + 1 : Nat) : Int) := by rw [w64 (by omega) (by omega)]; omega
theorem byte_lt (c : UInt8) : (c.toNat : Int) < 256 := by have := UInt8.toNat_lt c; omega
theorem byte_ge (c : UInt8) : 0 ≤ (c.toNat : Int) := by omega
theorem byte_back (c : UInt8) : UInt8.ofNat (c.toNat : Int).toNat = c := by simp
theorem byte_is (c d : UInt8) : ((c.toNat : Int) == (d.toNat : Int)) = (c == d) := by
  by_cases h : c = d
  · subst h; simp
  · have : ¬ c.toNat = d.toNat := fun e => h (UInt8.toNat_inj.1 e)
    have h1 : (c == d) = false := by simpa using h
    rw [h1]
    exact beq_false_of_ne (by omega)
theorem byte_eqI (c : UInt8) (m : Int) (h0 : 0 ≤ m) (h1 : m < 256) : ((c.toNat : Int) == m) = (c == UInt8.ofNat m.toNat) := by
  have : m = ((UInt8.ofNat m.toNat).toNat : Int) := by simp; omega
  rw [← byte_is]
  rw [← this]
theorem in_rng {k n : Nat} (h : k < n) : (0 : Int) ≤ (k : Int) ∧ (k : Int) < (n : Int) := by omega

/-! What a tree answers. -/
theorem Tr.val_chk {α : Type} {p : Prop} [Decidable p] {a : Tr α} (h : p) : (Tr.chk p a).val = a.val := if_pos h
theorem Tr.val_call {α β : Type} {o : Option β} {k : β → Tr α} {y : β} (h : o = some y) : (Tr.call o k).val = (k y).val := by subst h; rfl
theorem Tr.val_inl {α β γ : Type} {o : Option (β ⊕ γ)} {k : β → Tr α} {l : γ → Tr α} {y : β} (h : o = some (.inl y)) : (Tr.both o k l).val = (k y).val := by subst h; rfl
theorem Tr.val_inr {α β γ : Type} {o : Option (β ⊕ γ)} {k : β → Tr α} {l : γ → Tr α} {y : γ} (h : o = some (.inr y)) : (Tr.both o k l).val = (l y).val := by subst h; rfl

/-! Loops over a list. -/
/-- A list is gone through, till something ends it. -/
def foldE {α A ρ : Type} (step : A → α → A ⊕ ρ) (fin : A → ρ) : A → List α → ρ
  | a, [] => fin a
  | a, c :: l => match step a c with
    | .inl a' => foldE step fin a' l
    | .inr r => r
theorem iter_list {α A σ ρ : Type} {body : σ → Tr (σ ⊕ ρ)} (s : List α) (st : Nat → A → σ) (inv : Nat → A → Prop) (step : A → α → A ⊕ ρ) (fin : A → ρ)
    (hs : ∀ (k : Nat) (a : A) (c : α), inv k a → (hk : k < s.length) → s[k]'hk = c → (body (st k a)).val = some (match step a c with
      | .inl a' => .inl (st (k + 1) a')
      | .inr r => .inr r) ∧ ∀ a', step a c = .inl a' → inv (k + 1) a')
    (he : ∀ a, inv s.length a → (body (st s.length a)).val = some (.inr (fin a))) :
    ∀ (n k : Nat) (a : A), inv k a → k ≤ s.length → s.length - k < n → iter body n (st k a) = some (foldE step fin a (s.drop k)) := by
  intro n
  induction n with
  | zero => intro k a _ _ h; omega
  | succ n ih =>
    intro k a hi hk hn
    rw [iter]
    by_cases hl : k < s.length
    · obtain ⟨h1, h2⟩ := hs k a _ hi hl rfl
      rw [h1, List.drop_eq_getElem_cons hl, foldE]
      cases e : step a s[k] with
      | inr r => rfl
      | inl a' => exact ih (k + 1) a' (h2 a' e) (by omega) (by omega)
    · have hkl : k = s.length := by omega
      subst hkl
      rw [he a hi, List.drop_length, foldE]
/-- A loop over a list's indices, from the beginning. -/
theorem Loop_list {α A σ ρ : Type} {body : σ → Tr (σ ⊕ ρ)} (s : List α) (st : Nat → A → σ) (inv : Nat → A → Prop) (step : A → α → A ⊕ ρ) (fin : A → ρ)
    (hs : ∀ (k : Nat) (a : A) (c : α), inv k a → (hk : k < s.length) → s[k]'hk = c → (body (st k a)).val = some (match step a c with
      | .inl a' => .inl (st (k + 1) a')
      | .inr r => .inr r) ∧ ∀ a', step a c = .inl a' → inv (k + 1) a')
    (he : ∀ a, inv s.length a → (body (st s.length a)).val = some (.inr (fin a))) (hn : s.length < 1125899906842624) {a : A} (hi : inv 0 a) {s0 : σ} (h0 : s0 = st 0 a) : Loop body s0 = some (foldE step fin a s) := by
  subst h0
  have := iter_list s st inv step fin hs he rounds 0 a hi (Nat.zero_le _) (by unfold rounds; omega)
  rw [List.drop_zero] at this
  exact this
theorem getD_nat {α : Type} {s : List α} {k : Nat} {c : α} {d : α} (hk : k < s.length) (hc : s[k]'hk = c) : s.getD k d = c := by
  rw [List.getD_eq_getElem?_getD, List.getElem?_eq_getElem hk, hc]; rfl
theorem getD_at {α : Type} {s : List α} {k : Nat} {c : α} {d : α} (hk : k < s.length) (hc : s[k]'hk = c) : s.getD (k : Int).toNat d = c := by
  rw [Int.toNat_natCast, List.getD_eq_getElem?_getD, List.getElem?_eq_getElem hk, hc]; rfl
end Go.Vx
