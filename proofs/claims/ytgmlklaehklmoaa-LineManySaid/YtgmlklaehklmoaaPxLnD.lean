/- Lines: what the reader does, plainly. (A help: no statement of the seat is proved here.) -/
import Derived.Test.YtgmlklaehklmoaaLine
import Derived.Test.YtgmlklaehklmoaaPxA
import Derived.KernelRfl
set_option linter.unusedVariables false
set_option linter.unusedSimpArgs false
set_option maxRecDepth 100000
namespace Go.Vx
namespace LnD
open Go Go.Proofs

/-- Is a clause in a profile? -/
def hasD (p c : Int) : Bool := decide (0 ≤ c) && (decide (c < 30) && (IntKind.u32.wrap ((BitVec.ofInt IntKind.u32.bits (p.fdiv (2 ^ min c.toNat IntKind.u32.bits)) &&& BitVec.ofInt IntKind.u32.bits 1).toNat : Int) == 1))
theorem qknown_f (c : Int) : quirks_known.f c = some (decide (0 ≤ c) && decide (c < 30)) := by
  unfold quirks_known.f quirks_known.t
  by_cases h : 0 ≤ c <;> simp [Tr.val, h]
theorem has_f (p c : Int) : quirks_Has.f p c = some (hasD p c) := by
  unfold quirks_Has.f quirks_Has.t hasD
  rw [qknown_f, Tr.val_call rfl]
  by_cases h1 : 0 ≤ c
  · by_cases h2 : c < 30
    · simp [Tr.val, h1, h2, Int.not_lt.2 h1]
    · simp [Tr.val, h1, h2]
  · simp [Tr.val, h1]
theorem rhas_f (p c : Int) : ref4_Has.f p c = some (hasD p c) := by
  unfold ref4_Has.f ref4_Has.t hasD
  by_cases h1 : 0 ≤ c
  · by_cases h2 : c < 30
    · simp [Tr.val, h1, h2, Int.not_lt.2 h1]
    · simp [Tr.val, h1, h2]
  · simp [Tr.val, h1]
theorem end_f (b : List UInt8) : line_Reader_end.f b = some (false, true) := rfl
theorem fail_f (b : List UInt8) : line_Reader_fail.f b = some (false, true) := rfl

/-- What a byte does to a line. -/
def lnByte (p most : Int) (pend over bad : Bool) (b : List UInt8) (c : Int) : Bool × Bool × Bool × List UInt8 × Int :=
  if bad then (pend, over, bad, b, 3) else
  go (if over then [] else b)
where go (b : List UInt8) : Bool × Bool × Bool × List UInt8 × Int :=
  if pend then (if c = 10 then (false, true, false, b, 1) else if hasD p 2 then (false, true, false, b, 2) else (false, false, true, b, 3))
  else if c = 13 then (true, false, false, b, 0)
  else if c = 10 then (if hasD p 1 then (false, true, false, b, 1) else (false, false, true, b, 3))
  else if most ≤ b.length then (false, false, true, b, 4)
  else (false, false, false, b ++ [UInt8.ofNat c.toNat], 0)
theorem byte_f {p most c : Int} {pend over bad : Bool} {b : List UInt8} (hm : most ≤ 4096) (h0 : 0 ≤ c) (h1 : c < 256) : line_Reader_Byte.f p most pend over bad b c = some (lnByte p most pend over bad b c) := by
  unfold line_Reader_Byte.f line_Reader_Byte.t lnByte lnByte.go
  simp only [has_f, end_f, fail_f]
  by_cases e1 : c = 10
  · subst e1
    cases bad <;> cases over <;> cases pend <;> cases hasD p 2 <;> cases hasD p 1 <;> simp [Tr.val]
  · by_cases e2 : c = 13
    · subst e2
      cases bad <;> cases over <;> cases pend <;> cases hasD p 2 <;> cases hasD p 1 <;> simp [Tr.val]
    · have f1 : (c == 10) = false := by simpa using e1
      have f2 : (c == 13) = false := by simpa using e2
      by_cases e3 : most ≤ (b.length : Int)
      · by_cases e4 : most ≤ 0
        · cases bad <;> cases over <;> cases pend <;> cases hasD p 2 <;> cases hasD p 1 <;> simp [Tr.val, f1, f2, e1, e2, h0, h1, e3, e4]
        · cases bad <;> cases over <;> cases pend <;> cases hasD p 2 <;> cases hasD p 1 <;> simp [Tr.val, f1, f2, e1, e2, h0, h1, e3, e4]
      · have e4 : ¬ most ≤ 0 := by omega
        have e5 : b.length + 1 ≤ 140737488355328 := by omega
        cases bad <;> cases over <;> cases pend <;> cases hasD p 2 <;> cases hasD p 1 <;> simp [Tr.val, f1, f2, e1, e2, h0, h1, e3, e4, e5]
theorem line_f (over bad : Bool) (b : List UInt8) : line_Reader_Line.f over bad b = some (if over && !bad then b else []) := by
  unfold line_Reader_Line.f line_Reader_Line.t
  cases over <;> cases bad <;> simp [Tr.val]
theorem len_f (over : Bool) (b : List UInt8) : line_Reader_Len.f over b = some (if over then 0 else (b.length : Int)) := by
  unfold line_Reader_Len.f line_Reader_Len.t
  cases over <;> simp [Tr.val]
theorem pending_f (b : List UInt8) : line_Reader_Pending.f b = some () := rfl
theorem new_f (most : Int) : line_New.f most = some (mn2 (mx2 most 0) 4096, false, false, false, []) := rfl

end LnD
end Go.Vx
