/- Lines: the plain laws. (A help: no statement of the seat is proved here.) -/
import Derived.Test.YtgmlklaehklmoaaLineB
import Derived.Test.YtgmlklaehklmoaaPxA
import Derived.KernelRfl
set_option linter.unusedVariables false
set_option linter.unusedSimpArgs false
set_option maxRecDepth 100000
namespace Go.Vx
open Go Go.Proofs

/-- Is a clause in a profile? -/
def hasD (p c : Int) : Bool := decide (0 ≤ c) && (decide (c < 30) && (IntKind.u32.wrap ((BitVec.ofInt IntKind.u32.bits (p.fdiv (2 ^ min c.toNat IntKind.u32.bits)) &&& BitVec.ofInt IntKind.u32.bits 1).toNat : Int) == 1))
theorem qknown_f (c : Int) : quirks_known.f c = some (decide (0 ≤ c) && decide (c < 30)) := by
  unfold quirks_known.f quirks_known.t
  by_cases h : 0 ≤ c <;> simp [Tr.val, h]
theorem has_f (p c : Int) : quirks_Has.f p c = some (hasD p c) := by
  unfold quirks_Has.f quirks_Has.t hasD
  rw [qknown_f, Tr.val_call rfl]
  by_cases h1 : 0 ≤ c
  · by_cases h2 : c < 30
    · simp [Tr.val, h1, h2, Int.not_lt.2 h1]
    · simp [Tr.val, h1, h2]
  · simp [Tr.val, h1]
theorem rhas_f (p c : Int) : ref4_Has.f p c = some (hasD p c) := by
  unfold ref4_Has.f ref4_Has.t hasD
  by_cases h1 : 0 ≤ c
  · by_cases h2 : c < 30
    · simp [Tr.val, h1, h2, Int.not_lt.2 h1]
    · simp [Tr.val, h1, h2]
  · simp [Tr.val, h1]
theorem end_f (b : List UInt8) : line_Reader_end.f b = some (false, true) := rfl
theorem fail_f (b : List UInt8) : line_Reader_fail.f b = some (false, true) := rfl

/-- What a byte does to a line. -/
def lnByte (p most : Int) (pend over bad : Bool) (b : List UInt8) (c : Int) : Bool × Bool × Bool × List UInt8 × Int :=
  if bad then (pend, over, bad, b, 3) else
  go (if over then [] else b)
where go (b : List UInt8) : Bool × Bool × Bool × List UInt8 × Int :=
  if pend then (if c = 10 then (false, true, false, b, 1) else if hasD p 2 then (false, true, false, b, 2) else (false, false, true, b, 3))
  else if c = 13 then (true, false, false, b, 0)
  else if c = 10 then (if hasD p 1 then (false, true, false, b, 1) else (false, false, true, b, 3))
  else if most ≤ b.length then (false, false, true, b, 4)
  else (false, false, false, b ++ [UInt8.ofNat c.toNat], 0)
theorem byte_f {p most c : Int} {pend over bad : Bool} {b : List UInt8} (hm : most ≤ 4096) (h0 : 0 ≤ c) (h1 : c < 256) : line_Reader_Byte.f p most pend over bad b c = some (lnByte p most pend over bad b c) := by
  unfold line_Reader_Byte.f line_Reader_Byte.t lnByte lnByte.go
  simp only [has_f, end_f, fail_f]
  by_cases e1 : c = 10
  · subst e1
    cases bad <;> cases over <;> cases pend <;> cases hasD p 2 <;> cases hasD p 1 <;> simp [Tr.val]
  · by_cases e2 : c = 13
    · subst e2
      cases bad <;> cases over <;> cases pend <;> cases hasD p 2 <;> cases hasD p 1 <;> simp [Tr.val]
    · have f1 : (c == 10) = false := by simpa using e1
      have f2 : (c == 13) = false := by simpa using e2
      by_cases e3 : most ≤ (b.length : Int)
      · by_cases e4 : most ≤ 0
        · cases bad <;> cases over <;> cases pend <;> cases hasD p 2 <;> cases hasD p 1 <;> simp [Tr.val, f1, f2, e1, e2, h0, h1, e3, e4]
        · cases bad <;> cases over <;> cases pend <;> cases hasD p 2 <;> cases hasD p 1 <;> simp [Tr.val, f1, f2, e1, e2, h0, h1, e3, e4]
      · have e4 : ¬ most ≤ 0 := by omega
        have e5 : b.length + 1 ≤ 140737488355328 := by omega
        cases bad <;> cases over <;> cases pend <;> cases hasD p 2 <;> cases hasD p 1 <;> simp [Tr.val, f1, f2, e1, e2, h0, h1, e3, e4, e5]

theorem line_f (over bad : Bool) (b : List UInt8) : line_Reader_Line.f over bad b = some (if over && !bad then b else []) := by
  unfold line_Reader_Line.f line_Reader_Line.t
  cases over <;> cases bad <;> simp [Tr.val]
theorem new_f (most : Int) : line_New.f most = some (mn2 (mx2 most 0) 4096, false, false, false, []) := rfl

/-! A line feed or a carriage return alone. -/
theorem L6_f (s : List UInt8) (hs : s.length < 1000) : law6_LineBares.L6.f s 0 = some (if s.any (fun c => c == 10 || c == 13) then .inr true else .inl ()) := by
  have h := Loop_list (body := fun z : Int => law6_LineBares.L6.t s z) s (fun k (_ : Unit) => (k : Int)) (fun _ _ => True) (fun _ c => if c == 10 || c == 13 then .inr (.inr true) else .inl ()) (fun _ => (.inl () : Unit ⊕ Bool))
    (fun k a c _ hk hc => ?_) (fun a _ => ?_) (by omega) (a := ()) trivial (s0 := 0) rfl
  · unfold law6_LineBares.L6.f
    rw [h]
    congr 1
    clear h hs
    induction s with
    | nil => rfl
    | cons c l ih => by_cases hc : (c == 10 || c == 13) = true <;> simp only [foldE, hc, ih, List.any_cons, Bool.true_or, Bool.false_or, if_true] <;> simp [hc]
  · refine ⟨?_, fun _ _ => trivial⟩
    unfold law6_LineBares.L6.t
    simp only [getD_nat hk hc, Tr.val, in_rng hk, Int.toNat_natCast, hk, if_true, and_self, decide_true, cond_true]
    rw [wS (by omega), byte_eqI _ _ (by omega) (by omega), byte_eqI _ _ (by omega) (by omega)]
    by_cases h1 : c = 10
    · simp [h1]
    · have f1 : (c == 10) = false := by simpa using h1
      by_cases h2 : c = 13
      · simp [h1, h2]
      · have f2 : (c == 13) = false := by simpa using h2
        simp [f1, f2]
  · unfold law6_LineBares.L6.t
    simp [Tr.val]

theorem lnByte_more {p most : Int} {b : List UInt8} {c : UInt8} (h1 : c ≠ 10) (h2 : c ≠ 13) (hb : (b.length : Int) < most) : lnByte p most false false false b (c.toNat : Int) = (false, false, false, b ++ [c], 0) := by
  have e1 : ¬ (c.toNat : Int) = 10 := fun e => h1 (UInt8.toNat_inj.1 (show c.toNat = (10 : UInt8).toNat from by simp; omega))
  have e2 : ¬ (c.toNat : Int) = 13 := fun e => h2 (UInt8.toNat_inj.1 (show c.toNat = (13 : UInt8).toNat from by simp; omega))
  simp [lnByte, lnByte.go, e1, e2, Int.not_le.2 hb]
theorem L17_f (p : Int) (s : List UInt8) (hs : s.length ≤ 30) (h : ∀ c, c ∈ s → c ≠ 10 ∧ c ≠ 13) : law6_LineBares.L17.f p 30 false false false [] p 30 false false false [] s 0 = some (false, false, false, s, false, false, false, s) := by
  have h := Loop_list (body := fun z : Bool × Bool × Bool × List UInt8 × Bool × Bool × Bool × List UInt8 × Int => law6_LineBares.L17.t p 30 z.1 z.2.1 z.2.2.1 z.2.2.2.1 p 30 z.2.2.2.2.1 z.2.2.2.2.2.1 z.2.2.2.2.2.2.1 z.2.2.2.2.2.2.2.1 s z.2.2.2.2.2.2.2.2) s
    (fun k (_ : Unit) => (false, false, false, s.take k, false, false, false, s.take k, (k : Int))) (fun _ _ => True) (fun _ _ => .inl ()) (fun _ => (false, false, false, s, false, false, false, s))
    (fun k a c _ hk hc => ?_) (fun a _ => ?_) (by omega) (a := ()) trivial (s0 := (false, false, false, [], false, false, false, [], 0)) (by simp)
  · unfold law6_LineBares.L17.f
    rw [h]
    congr 1
    clear h hs
    generalize (false, false, false, s, false, false, false, s) = r
    induction s with
    | nil => rfl
    | cons c l ih => exact ih (fun c hc => by simp_all)
  · refine ⟨?_, fun _ _ => trivial⟩
    obtain ⟨h1, h2⟩ := h c (by rw [← hc]; exact List.getElem_mem hk)
    have hb : (((s.take k).length : Nat) : Int) < 30 := by rw [List.length_take]; omega
    have ht : s.take k ++ [c] = s.take (k + 1) := by rw [← hc, List.take_append_getElem hk]
    unfold law6_LineBares.L17.t
    simp only [getD_nat hk hc, Tr.val, in_rng hk, Int.toNat_natCast, hk, if_true, and_self, decide_true, cond_true, byte_f (show (30 : Int) ≤ 4096 by omega) (byte_ge c) (byte_lt c), lnByte_more h1 h2 hb, ht]
    rw [wS (by omega)]
  · unfold law6_LineBares.L17.t
    simp [Tr.val]
theorem known6_f : law6_known.f = some true := by kernel_rfl
theorem h61 : hasD 6 1 = true := by kernel_rfl
theorem h62 : hasD 6 2 = true := by kernel_rfl
theorem h21 : hasD 2 1 = true := by kernel_rfl
theorem h22 : hasD 2 2 = false := by kernel_rfl
theorem h41 : hasD 4 1 = false := by kernel_rfl
theorem h42 : hasD 4 2 = true := by kernel_rfl
theorem h01 : hasD 0 1 = false := by kernel_rfl
theorem h02 : hasD 0 2 = false := by kernel_rfl
theorem bares (s : List UInt8) (lf cr : Bool) (c : UInt8) : law6_LineBares.f s lf cr c = some true := by
  unfold law6_LineBares.f law6_LineBares.t
  simp only [known6_f, Tr.val, Bool.not_true, cond_false]
  by_cases hl : (s.length : Int) > 30
  · simp [hl]
  by_cases h1 : c = 10
  · subst h1; simp
  by_cases h2 : c = 13
  · subst h2; simp
  have n1 : ¬ (c.toNat : Int) = 10 := fun e => h1 (UInt8.toNat_inj.1 (show c.toNat = (10 : UInt8).toNat from by simp; omega))
  have n2 : ¬ (c.toNat : Int) = 13 := fun e => h2 (UInt8.toNat_inj.1 (show c.toNat = (13 : UInt8).toNat from by simp; omega))
  have g1 : (Int.ofNat c.toNat == 10) = false := beq_false_of_ne n1
  have g2 : (Int.ofNat c.toNat == 13) = false := beq_false_of_ne n2
  have hs : s.length ≤ 30 := by omega
  rw [L6_f s (by omega)]
  simp only [hl, decide_false, cond_false, g1, g2]
  by_cases ha : (s.any fun c => c == 10 || c == 13) = true
  · simp [ha, Tr.val]
  · have hall : ∀ d, d ∈ s → d ≠ 10 ∧ d ≠ 13 := fun d hd => by
      simp only [List.any_eq_true, not_exists, not_and, Bool.or_eq_true, beq_iff_eq, not_or] at ha
      exact ha d hd
    simp only [if_neg ha]
    have b10 : ∀ p, line_Reader_Byte.f p 30 false false false s 10 = some (lnByte p 30 false false false s 10) := fun p => byte_f (by omega) (by omega) (by omega)
    have b13 : ∀ p, line_Reader_Byte.f p 30 false false false s 13 = some (lnByte p 30 false false false s 13) := fun p => byte_f (by omega) (by omega) (by omega)
    have bc : ∀ p x y z b, line_Reader_Byte.f p 30 x y z b (c.toNat : Int) = some (lnByte p 30 x y z b (c.toNat : Int)) := fun p x y z b => byte_f (by omega) (byte_ge c) (byte_lt c)
    have e10 : ∀ p, lnByte p 30 false false false s 10 = if hasD p 1 then (false, true, false, s, 1) else (false, false, true, s, 3) := fun p => by simp [lnByte, lnByte.go]
    have e13 : ∀ p, lnByte p 30 false false false s 13 = (true, false, false, s, 0) := fun p => by simp [lnByte, lnByte.go]
    have ec : ∀ p, lnByte p 30 true false false s (c.toNat : Int) = if hasD p 2 then (false, true, false, s, 2) else (false, false, true, s, 3) := fun p => by simp [lnByte, lnByte.go, n1]
    cases lf <;> cases cr <;> simp [Tr.val, new_f, L17_f _ s hs hall, b10, b13, bc, e10, e13, ec, h61, h62, h21, h22, h41, h42, h01, h02, line_f, mn2, mx2]
theorem bares_ok : ConOk Try.prog 10 (lawCon [(.sl .byte), .bool, .bool, .byte]) := law6_LineBares.law_ok fun x _ => bares _ _ _ _
end Go.Vx
