/- Lines: each byte does to the reader what it does to the reference's. (A help: no statement of the seat is proved here.) -/
import Derived.Test.YtgmlklaehklmoaaLineP
import Derived.Test.YtgmlklaehklmoaaPxA
import Derived.KernelRfl
set_option linter.unusedVariables false
set_option linter.unusedSimpArgs false
set_option maxRecDepth 100000
namespace Go.Vx
namespace PlayP
open Go Go.Proofs

/-- Is a clause in a profile? -/
def hasD (p c : Int) : Bool := decide (0 ≤ c) && (decide (c < 30) && (IntKind.u32.wrap ((BitVec.ofInt IntKind.u32.bits (p.fdiv (2 ^ min c.toNat IntKind.u32.bits)) &&& BitVec.ofInt IntKind.u32.bits 1).toNat : Int) == 1))
theorem qknown_f (c : Int) : quirks_known.f c = some (decide (0 ≤ c) && decide (c < 30)) := by
  unfold quirks_known.f quirks_known.t
  by_cases h : 0 ≤ c <;> simp [Tr.val, h]
theorem has_f (p c : Int) : quirks_Has.f p c = some (hasD p c) := by
  unfold quirks_Has.f quirks_Has.t hasD
  rw [qknown_f, Tr.val_call rfl]
  by_cases h1 : 0 ≤ c
  · by_cases h2 : c < 30
    · simp [Tr.val, h1, h2, Int.not_lt.2 h1]
    · simp [Tr.val, h1, h2]
  · simp [Tr.val, h1]
theorem rhas_f (p c : Int) : ref4_Has.f p c = some (hasD p c) := by
  unfold ref4_Has.f ref4_Has.t hasD
  by_cases h1 : 0 ≤ c
  · by_cases h2 : c < 30
    · simp [Tr.val, h1, h2, Int.not_lt.2 h1]
    · simp [Tr.val, h1, h2]
  · simp [Tr.val, h1]
theorem end_f (b : List UInt8) : line_Reader_end.f b = some (false, true) := rfl
theorem fail_f (b : List UInt8) : line_Reader_fail.f b = some (false, true) := rfl

/-- What a byte does to a line. -/
def lnByte (p most : Int) (pend over bad : Bool) (b : List UInt8) (c : Int) : Bool × Bool × Bool × List UInt8 × Int :=
  if bad then (pend, over, bad, b, 3) else
  go (if over then [] else b)
where go (b : List UInt8) : Bool × Bool × Bool × List UInt8 × Int :=
  if pend then (if c = 10 then (false, true, false, b, 1) else if hasD p 2 then (false, true, false, b, 2) else (false, false, true, b, 3))
  else if c = 13 then (true, false, false, b, 0)
  else if c = 10 then (if hasD p 1 then (false, true, false, b, 1) else (false, false, true, b, 3))
  else if most ≤ b.length then (false, false, true, b, 4)
  else (false, false, false, b ++ [UInt8.ofNat c.toNat], 0)
theorem byte_f {p most c : Int} {pend over bad : Bool} {b : List UInt8} (hm : most ≤ 4096) (h0 : 0 ≤ c) (h1 : c < 256) : line_Reader_Byte.f p most pend over bad b c = some (lnByte p most pend over bad b c) := by
  unfold line_Reader_Byte.f line_Reader_Byte.t lnByte lnByte.go
  simp only [has_f, end_f, fail_f]
  by_cases e1 : c = 10
  · subst e1
    cases bad <;> cases over <;> cases pend <;> cases hasD p 2 <;> cases hasD p 1 <;> simp [Tr.val]
  · by_cases e2 : c = 13
    · subst e2
      cases bad <;> cases over <;> cases pend <;> cases hasD p 2 <;> cases hasD p 1 <;> simp [Tr.val]
    · have f1 : (c == 10) = false := by simpa using e1
      have f2 : (c == 13) = false := by simpa using e2
      by_cases e3 : most ≤ (b.length : Int)
      · by_cases e4 : most ≤ 0
        · cases bad <;> cases over <;> cases pend <;> cases hasD p 2 <;> cases hasD p 1 <;> simp [Tr.val, f1, f2, e1, e2, h0, h1, e3, e4]
        · cases bad <;> cases over <;> cases pend <;> cases hasD p 2 <;> cases hasD p 1 <;> simp [Tr.val, f1, f2, e1, e2, h0, h1, e3, e4]
      · have e4 : ¬ most ≤ 0 := by omega
        have e5 : b.length + 1 ≤ 140737488355328 := by omega
        cases bad <;> cases over <;> cases pend <;> cases hasD p 2 <;> cases hasD p 1 <;> simp [Tr.val, f1, f2, e1, e2, h0, h1, e3, e4, e5]
theorem line_f (over bad : Bool) (b : List UInt8) : line_Reader_Line.f over bad b = some (if over && !bad then b else []) := by
  unfold line_Reader_Line.f line_Reader_Line.t
  cases over <;> cases bad <;> simp [Tr.val]
theorem len_f (over : Bool) (b : List UInt8) : line_Reader_Len.f over b = some (if over then 0 else (b.length : Int)) := by
  unfold line_Reader_Len.f line_Reader_Len.t
  cases over <;> simp [Tr.val]
theorem pending_f (b : List UInt8) : line_Reader_Pending.f b = some () := rfl
theorem new_f (most : Int) : line_New.f most = some (mn2 (mx2 most 0) 4096, false, false, false, []) := rfl

/-! The reference's reader. -/
theorem rend_f (B : List UInt8) : ref6_Reader_end.f B = some (false, B, true, []) := by
  unfold ref6_Reader_end.f ref6_Reader_end.t
  simp [Tr.val]
theorem rdie_f (B : List UInt8) : ref6_Reader_die.f B = some true := rfl
theorem rnew_f (most : Int) : ref6_New.f most = some (mn2 (mx2 most 0) 4096, false, [], false, false, []) := rfl
def rfByte (p most : Int) (cr : Bool) (L : List UInt8) (over dead : Bool) (B : List UInt8) (c : Int) : Bool × List UInt8 × Bool × Bool × List UInt8 × Int :=
  if dead then (cr, L, over, dead, B, 3)
  else if cr then (if c = 10 then (false, B, true, false, [], 1) else if hasD p 2 then (false, B, true, false, [], 2) else (cr, [], false, true, B, 3))
  else if c = 10 then (if hasD p 1 then (false, B, true, false, [], 1) else (cr, [], false, true, B, 3))
  else if c = 13 then (true, [], false, false, B, 0)
  else if most ≤ B.length then (cr, [], false, true, B, 4)
  else (cr, [], false, false, B ++ [UInt8.ofNat c.toNat], 0)
theorem rbyte_f {p most c : Int} {cr over dead : Bool} {L B : List UInt8} (hm : most ≤ 4096) (h0 : 0 ≤ c) (h1 : c < 256) : ref6_Reader_Byte.f p most cr L over dead B c = some (rfByte p most cr L over dead B c) := by
  unfold ref6_Reader_Byte.f ref6_Reader_Byte.t rfByte
  simp only [rhas_f, rend_f, rdie_f]
  by_cases e1 : c = 10
  · subst e1
    cases dead <;> cases cr <;> cases hasD p 2 <;> cases hasD p 1 <;> simp [Tr.val]
  · have f1 : (c == 10) = false := by simpa using e1
    by_cases e2 : c = 13
    · subst e2
      cases dead <;> cases cr <;> cases hasD p 2 <;> cases hasD p 1 <;> simp [Tr.val]
    · have f2 : (c == 13) = false := by simpa using e2
      by_cases e3 : most ≤ (B.length : Int)
      · cases dead <;> cases cr <;> cases hasD p 2 <;> cases hasD p 1 <;> simp [Tr.val, f1, f2, e1, e2, h0, h1, e3]
      · have e5 : B.length + 1 ≤ 140737488355328 := by omega
        cases dead <;> cases cr <;> cases hasD p 2 <;> cases hasD p 1 <;> simp [Tr.val, f1, f2, e1, e2, h0, h1, e3, e5]

/-! The two, side by side. -/
structure PS where
  pend : Bool
  over : Bool
  bad : Bool
  b : List UInt8
  cr : Bool
  L : List UInt8
  ov : Bool
  dead : Bool
  B : List UInt8
def PS.ok (s : PS) : Prop := s.bad = s.dead ∧ (s.bad = false → s.pend = s.cr ∧ (if s.over then s.B = [] ∧ s.L = s.b else s.B = s.b ∧ s.L = [])) ∧ (s.bad = true → s.L = [])
def PS.next (p m : Int) (s : PS) (c : Int) : PS :=
  let x := lnByte p m s.pend s.over s.bad s.b c
  let y := rfByte p m s.cr s.L s.ov s.dead s.B c
  ⟨x.1, x.2.1, x.2.2.1, x.2.2.2.1, y.1, y.2.1, y.2.2.1, y.2.2.2.1, y.2.2.2.2.1⟩
theorem PS.step {p m c : Int} {s : PS} (h : s.ok) (hm : 0 ≤ m) :
    (s.next p m c).ok ∧ (lnByte p m s.pend s.over s.bad s.b c).2.2.2.2 = (rfByte p m s.cr s.L s.ov s.dead s.B c).2.2.2.2.2 ∧
      (if (s.next p m c).over && !(s.next p m c).bad then (s.next p m c).b else []) = (s.next p m c).L ∧
      ((rfByte p m s.cr s.L s.ov s.dead s.B c).2.2.2.2.2 < 3 → (if (s.next p m c).over then 0 else ((s.next p m c).b.length : Int)) = ((s.next p m c).B.length : Int) ∧ (s.next p m c).pend = (s.next p m c).cr) := by
  obtain ⟨pend, over, bad, b, cr, L, ov, dead, B⟩ := s
  obtain ⟨h1, h2, h3⟩ := h
  simp only at h1 h2 h3
  subst h1
  cases bad with
  | true =>
    have hL := h3 rfl
    subst hL
    refine ⟨⟨?_, ?_, ?_⟩, ?_, ?_, ?_⟩ <;> simp [PS.next, lnByte, rfByte]
  | false =>
    obtain ⟨hp, hb⟩ := h2 rfl
    subst hp
    have key : ∃ b', B = b' ∧ (if over then [] else b) = b' := by
      cases over
      · simp only [Bool.false_eq_true, if_false] at hb; exact ⟨_, rfl, by simp [hb.1]⟩
      · simp only [if_true] at hb; exact ⟨_, rfl, by simp [hb.1]⟩
    obtain ⟨b', rfl, hb'⟩ := key
    by_cases e1 : c = 10
    · cases pend <;> cases e4 : hasD p 1 <;> simp [PS.next, PS.ok, lnByte, lnByte.go, rfByte, hb', e1, e4]
    · by_cases e2 : c = 13
      · cases pend <;> cases e4 : hasD p 2 <;> simp [PS.next, PS.ok, lnByte, lnByte.go, rfByte, hb', e1, e2, e4]
      · by_cases e3 : m ≤ (B.length : Int)
        · cases pend <;> cases e4 : hasD p 2 <;> simp [PS.next, PS.ok, lnByte, lnByte.go, rfByte, hb', e1, e2, e3, e4]
        · cases pend <;> cases e4 : hasD p 2 <;> simp [PS.next, PS.ok, lnByte, lnByte.go, rfByte, hb', e1, e2, e3, e4]
theorem foldE_all {α A ρ : Type} (g : A → α → A) (r : A → ρ) (a : A) (l : List α) : foldE (fun a c => .inl (g a c)) r a l = r (l.foldl g a) := by
  induction l generalizing a with
  | nil => rfl
  | cons c l ih => exact ih (g a c)
theorem foldE_unit {α A ρ : Type} (g : A → α → A) (r : ρ) (a : A) (l : List α) : foldE (fun a c => .inl (g a c)) (fun _ => r) a l = r := foldE_all g (fun _ => r) a l

theorem L22_f (p m : Int) (hm0 : 0 ≤ m) (hm1 : m ≤ 4096) (t57 : List (List UInt8)) (t64 t74 : List Int) (s : List UInt8) (hs : s.length < 1000) :
    law6_LinePlays.L22.f p m false false false [] p m false [] false false [] t57 t64 t74 s 0 = some (.inl ()) := by
  have h := Loop_list (body := fun z : Bool × Bool × Bool × List UInt8 × Bool × List UInt8 × Bool × Bool × List UInt8 × Int => law6_LinePlays.L22.t p m z.1 z.2.1 z.2.2.1 z.2.2.2.1 p m z.2.2.2.2.1 z.2.2.2.2.2.1 z.2.2.2.2.2.2.1 z.2.2.2.2.2.2.2.1 z.2.2.2.2.2.2.2.2.1 t57 t64 t74 s z.2.2.2.2.2.2.2.2.2) s
    (fun k (x : PS) => (x.pend, x.over, x.bad, x.b, x.cr, x.L, x.ov, x.dead, x.B, (k : Int))) (fun _ x => x.ok) (fun x c => .inl (x.next p m (c.toNat : Int))) (fun _ => (.inl () : Unit ⊕ Bool))
    (fun k x c hx hk hc => ?_) (fun x _ => ?_) (by omega) (a := ⟨false, false, false, [], false, [], false, false, []⟩) (by simp [PS.ok]) (s0 := (false, false, false, [], false, [], false, false, [], 0)) rfl
  · unfold law6_LinePlays.L22.f
    rw [h, foldE_unit]
  · obtain ⟨g1, g2, g3, g4⟩ := PS.step (p := p) (c := (c.toNat : Int)) hx hm0
    refine ⟨?_, fun a' h => by cases h; exact g1⟩
    unfold law6_LinePlays.L22.t
    simp only [getD_nat hk hc, Tr.val, in_rng hk, Int.toNat_natCast, hk, if_true, and_self, decide_true, cond_true, byte_f hm1 (byte_ge c) (byte_lt c), rbyte_f hm1 (byte_ge c) (byte_lt c), line_f, len_f, pending_f]
    rw [wS (by omega)]
    simp only [g2, bne_self_eq_false, cond_false]
    have e3 : (if (lnByte p m x.pend x.over x.bad x.b (c.toNat : Int)).2.1 && !(lnByte p m x.pend x.over x.bad x.b (c.toNat : Int)).2.2.1 then (lnByte p m x.pend x.over x.bad x.b (c.toNat : Int)).2.2.2.1 else []) = (rfByte p m x.cr x.L x.ov x.dead x.B (c.toNat : Int)).2.1 := g3
    rw [e3]
    simp only [beq_self_eq_true, Bool.not_true, cond_false]
    by_cases hy : (rfByte p m x.cr x.L x.ov x.dead x.B (c.toNat : Int)).2.2.2.2.2 < 3
    · obtain ⟨k1, k2⟩ := g4 hy
      have k1' : (if (lnByte p m x.pend x.over x.bad x.b (c.toNat : Int)).2.1 then (0 : Int) else ((lnByte p m x.pend x.over x.bad x.b (c.toNat : Int)).2.2.2.1.length : Int)) = ((rfByte p m x.cr x.L x.ov x.dead x.B (c.toNat : Int)).2.2.2.2.1.length : Int) := k1
      have k2' : (lnByte p m x.pend x.over x.bad x.b (c.toNat : Int)).1 = (rfByte p m x.cr x.L x.ov x.dead x.B (c.toNat : Int)).1 := k2
      simp only [hy, decide_true, cond_true, k1', k2', bne_self_eq_false, cond_false, beq_self_eq_true, Bool.not_true]
      simp only [PS.next, k2']
    · simp only [hy, decide_false, cond_false]
      rfl
  · unfold law6_LinePlays.L22.t
    simp [Tr.val]

/-- A loop that only goes through. -/
theorem Loop_thru {α ρ : Type} {body : Int → Tr (Int ⊕ ρ)} (s : List α) (r : ρ)
    (hs : ∀ (k : Nat) (c : α), (hk : k < s.length) → s[k]'hk = c → (body (k : Int)).val = some (.inl ((k + 1 : Nat) : Int)))
    (he : (body (s.length : Int)).val = some (.inr r)) (hn : s.length < 1125899906842624) : Loop body 0 = some r := by
  have h := Loop_list (body := body) s (fun k (_ : Unit) => (k : Int)) (fun _ _ => True) (fun _ _ => .inl ()) (fun _ => r)
    (fun k a c _ hk hc => ⟨hs k c hk hc, fun _ _ => trivial⟩) (fun a _ => he) hn (a := ()) trivial (s0 := 0) rfl
  rw [h, foldE_unit]
theorem mn2_le (a b : Int) : mn2 a b ≤ b := by unfold mn2; split <;> omega
theorem mnmx (a : Int) : 0 ≤ mn2 (mx2 a 0) 4096 := by unfold mn2 mx2; split <;> split <;> omega
theorem L18_f (t57 : List (List UInt8)) (t64 t74 : List Int) (s : List UInt8) (q : Int) (hs : s.length < 1000) (n : Int) (hn : n = (t74.length : Int)) (hl : t74.length < 1000) :
    law6_LinePlays.L18.f t57 t64 t74 s q n 0 = some (.inl ()) := by
  subst hn
  unfold law6_LinePlays.L18.f
  refine Loop_thru t74 _ (fun k c hk hc => ?_) ?_ (by omega)
  · unfold law6_LinePlays.L18.t
    simp only [Tr.val, Nat.zero_add, getD_nat hk hc, in_rng hk, Int.toNat_natCast, hk, if_true, and_self, decide_true, cond_true, new_f, rnew_f, L22_f q _ (mnmx c) (mn2_le _ _) t57 t64 t74 s hs]
    rw [wS (by omega)]
  · unfold law6_LinePlays.L18.t
    simp [Tr.val]
theorem L15_f (t57 : List (List UInt8)) (t64 : List Int) (k m : Int) (s : List UInt8) (hs : s.length < 1000) (n : Int) (hn : n = (t64.length : Int)) (hl : t64.length < 1000) :
    law6_LinePlays.L15.f t57 t64 k m s n 0 = some (.inl ()) := by
  subst hn
  unfold law6_LinePlays.L15.f
  refine Loop_thru t64 _ (fun j c hk hc => ?_) ?_ (by omega)
  · unfold law6_LinePlays.L15.t
    simp only [Tr.val, Nat.zero_add, getD_nat hk hc, in_rng hk, Int.toNat_natCast, hk, if_true, and_self, decide_true, cond_true]
    rw [L18_f t57 t64 [m, IntKind.i64.wrap (k.tmod 8)] s c hs 2 rfl (by simp)]
    simp only [Tr.val]
    rw [wS (by omega)]
  · unfold law6_LinePlays.L15.t
    simp [Tr.val]
theorem L12_f (t57 : List (List UInt8)) (k m p : Int) (hs : ∀ s, s ∈ t57 → s.length < 1000) (n : Int) (hn : n = (t57.length : Int)) (hl : t57.length < 1000) :
    law6_LinePlays.L12.f t57 k m p n 0 = some (.inl ()) := by
  subst hn
  unfold law6_LinePlays.L12.f
  refine Loop_thru t57 _ (fun j c hk hc => ?_) ?_ (by omega)
  · unfold law6_LinePlays.L12.t
    simp only [Tr.val, Nat.zero_add, getD_nat hk hc, in_rng hk, Int.toNat_natCast, hk, if_true, and_self, decide_true, cond_true]
    rw [L15_f t57 [0, p, 2, 4, 6] k m c (hs c (hc ▸ List.getElem_mem hk)) 5 rfl (by simp)]
    simp only [Tr.val]
    rw [wS (by omega)]
  · unfold law6_LinePlays.L12.t
    simp [Tr.val]

def oddL : List Int := [13, 10, 97, 13, 98, 10, 0, 32]
theorem odd_rng : ∀ m : Nat, m < 8 → 0 ≤ oddL.getD m 0 ∧ oddL.getD m 0 < 256 := by decide
theorem L8_f (l : List UInt8) (hl : l.length ≤ 60) : ∃ r : List UInt8, r.length ≤ 60 ∧ law6_LinePlays.L8.f [] l 0 = some r := by
  have h := Loop_list (body := fun z : List UInt8 × Int => law6_LinePlays.L8.t z.1 l z.2) l (fun k (x : List UInt8) => (x, (k : Int))) (fun k x => x.length = k ∧ k ≤ l.length)
    (fun x c => .inl (x ++ [UInt8.ofNat (oddL.getD ((c.toNat : Int).tmod 8).toNat 0).toNat])) (fun x => x)
    (fun k x c hx hk hc => ?_) (fun x _ => ?_) (by omega) (a := []) (by simp) (s0 := ([], 0)) rfl
  · unfold law6_LinePlays.L8.f
    refine ⟨_, ?_, h⟩
    rw [foldE_all]
    have : ∀ (l x : List UInt8), (l.foldl (fun x c => x ++ [UInt8.ofNat (oddL.getD ((c.toNat : Int).tmod 8).toNat 0).toNat]) x).length = x.length + l.length := by
      intro l
      induction l with
      | nil => intro x; rfl
      | cons c l ih => intro x; rw [List.foldl_cons, ih]; simp; omega
    rw [this]
    simpa using hl
  · obtain ⟨h1, h2⟩ := hx
    refine ⟨?_, fun a' h => by cases h; simp; omega⟩
    unfold law6_LinePlays.L8.t
    have r0 : 0 ≤ (c.toNat : Int).tmod 8 := Int.tmod_nonneg _ (by omega)
    have r1 : (c.toNat : Int).tmod 8 < 8 := Int.tmod_lt_of_pos _ (by omega)
    have r2 : ((c.toNat : Int).tmod 8).toNat < 8 := by omega
    obtain ⟨r3, r4⟩ := odd_rng _ r2
    have hx1 : x.length + 1 ≤ 140737488355328 := by omega
    unfold oddL at r3 r4 ⊢
    simp only [Tr.val, Nat.zero_add, Nat.mul_one, getD_nat hk hc, in_rng hk, Int.toNat_natCast, hk, if_true, and_self, decide_true, cond_true, r0, r1, r2, r3, r4, Nat.le_refl, hx1, List.drop_zero, List.take_length, List.length_append, List.length_cons, List.length_nil]
    rw [wS (by omega)]
  · unfold law6_LinePlays.L8.t
    simp [Tr.val]
theorem of_some (l : List Int) (hl : l.length < 1000) : ∃ p, ref4_Of.f l = some p := by
  unfold ref4_Of.f ref4_Of.t
  have h := Loop_list (body := fun z : Int × Int => ref4_Of.L3.t l z.1 z.2) l (fun k (x : Int) => (x, (k : Int))) (fun _ _ => True)
    (fun x c => .inl (if 0 ≤ c ∧ c < 30 then IntKind.u32.wrap (↑(BitVec.ofInt IntKind.u32.bits x ||| BitVec.ofInt IntKind.u32.bits (IntKind.u32.wrap ((1 : Int) * (2 : Int) ^ min (Int.toNat c) IntKind.u32.bits))).toNat : Int) else x)) (fun x => x)
    (fun k x c hx hk hc => ?_) (fun x _ => ?_) (by omega) (a := 0) trivial (s0 := (0, 0)) rfl
  · have h' : ref4_Of.L3.f l 0 0 = some _ := h
    rw [Tr.val, Tr.val_call h']
    exact ⟨_, rfl⟩
  · refine ⟨?_, fun _ _ => trivial⟩
    unfold ref4_Of.L3.t
    simp only [Tr.val, Nat.zero_add, getD_nat hk hc, in_rng hk, Int.toNat_natCast, hk, if_true, and_self, decide_true, cond_true]
    by_cases c1 : 0 ≤ c
    · by_cases c2 : c < 30
      · simp [c1, c2, Int.not_lt.2 c1]
        rw [wS (by omega)]; simp
      · simp [c1, c2]
        rw [wS (by omega)]; simp
    · simp [c1]
      rw [wS (by omega)]; simp
  · unfold ref4_Of.L3.t
    simp [Tr.val]
theorem profile_some (a k : Int) : ∃ q, seat_Profile.f a k = some q := by
  unfold seat_Profile.f seat_Profile.t
  by_cases h0 : (k.tmod 4 == 0) = true
  · obtain ⟨p, hp⟩ := of_some [(IntKind.i64.wrap ((IntKind.i64.wrap k).tdiv (4 : Int))).tmod (30 : Int)] (by simp)
    simp only [h0, Tr.val, cond_true, hp]
    exact ⟨_, rfl⟩
  · by_cases h1 : (k.tmod 4 == 1) = true
    · obtain ⟨p, hp⟩ := of_some [(IntKind.i64.wrap ((IntKind.i64.wrap k).tdiv (4 : Int))).tmod (30 : Int), IntKind.i64.wrap (a.tmod (30 : Int))] (by simp)
      simp only [h0, h1, Tr.val, cond_true, cond_false, hp]
      exact ⟨_, rfl⟩
    · by_cases h2 : (k.tmod 4 == 2) = true
      · simp only [h0, h1, h2, Tr.val, cond_true, cond_false]
        exact ⟨_, rfl⟩
      · simp only [h0, h1, h2, Tr.val, cond_true, cond_false]
        exact ⟨_, rfl⟩
theorem known_f : law6_known.f = some true := by kernel_rfl
theorem plays (raw : List UInt8) (a : Int) (k : UInt8) (most : Int) (l : List UInt8) : law6_LinePlays.f raw a k most l = some true := by
  unfold law6_LinePlays.f law6_LinePlays.t
  simp only [known_f, Tr.val, Bool.not_true, cond_false]
  by_cases h1 : (raw.length : Int) > 100
  · simp [h1]
  by_cases h2 : (l.length : Int) > 60
  · simp [h1, h2]
  obtain ⟨q, hq⟩ := profile_some a (Int.ofNat k.toNat)
  obtain ⟨r, hr, hL⟩ := L8_f l (by omega)
  simp only [h1, h2, decide_false, cond_false, hq, hL, Tr.val]
  have hl : ∀ s, s ∈ [raw, List.take r.length (List.drop 0 r)] → s.length < 1000 := by
    intro s hs
    simp only [List.mem_cons, List.not_mem_nil, or_false] at hs
    rcases hs with rfl | rfl
    · omega
    · simp; omega
  rw [L12_f _ _ _ _ hl 2 rfl (by simp)]
  simp [Tr.val]
theorem plays_ok : ConOk Try.prog 8 (lawCon [.sl .byte, .int .u32, .byte, .int .i64, .sl .byte]) := law6_LinePlays.law_ok fun x _ => plays _ _ _ _ _
end PlayP
end Go.Vx
