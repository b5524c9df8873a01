/- Printed by a program of ours out of our texts: the evaluator, the printed functions, the plain laws. (A help: no statement of the seat is proved here.) -/
import Derived.Test.YtdbcghiconpjlaaGreatDoorPRuleReadsD
import Derived.KernelRfl
section
set_option linter.unusedVariables false
set_option linter.unusedSimpArgs false
set_option maxRecDepth 100000
namespace Go.Vx
namespace Pl
open Go Go.Proofs
def lpieces (a b c d : Bool) (nm name n m value : List UInt8) : List (List UInt8) := nm :: ((if a = true then [name] else []) ++ ((if b = true then [n] else []) ++ ((if c = true then [m] else []) ++ if d = true then [value] else [])))
def lineW (K : Int) (name value : List UInt8) (N M : Int) : List (List UInt8) := lpieces (bitS (hasV K) 0) (bitS (hasV K) 1) (bitS (hasV K) 2) (bitS (hasV K) 3) (kindNames.getD (K - 1).toNat []) name (Lib.itoa N) (Lib.itoa M) value
def LineS (K : Int) (name value : List UInt8) (N M : Int) : List UInt8 × Bool := if RightS K name value N M = true then (joinC 32 (lineW K name value N M), true) else ([], false)
theorem kind_of {K : Int} {name value : List UInt8} {N M : Int} (h : RightS K name value N M = true) : K = 1 ∨ K = 2 ∨ K = 3 ∨ K = 4 ∨ K = 5 ∨ K = 6 ∨ K = 7 ∨ K = 8 ∨ K = 9 ∨ K = 10 ∨ K = 11 ∨ K = 12 := by
 apply Classical.byContradiction
 intro hk
 have hb : bodyS K name value N M = false := by
  unfold bodyS
  rw [if_neg (by omega), if_neg (by omega), if_neg (by omega), if_neg (by omega), if_neg (by omega), if_neg (by omega), if_neg (by omega), if_neg (by omega), if_neg (by omega)]
 unfold RightS at h
 rw [hb, Bool.and_false] at h
 cases h
theorem right_facts {K : Int} {name value : List UInt8} {N M : Int} (h : RightS K name value N M = true) : name.length ≤ 256 ∧ value.length ≤ 256 ∧ (bitS (hasV K) 0 = true ∨ name = []) ∧ (bitS (hasV K) 1 = true ∨ N = 0) ∧ (bitS (hasV K) 2 = true ∨ M = 0) ∧ (bitS (hasV K) 3 = true ∨ value = []) ∧ bodyS K name value N M = true := by
 simp only [RightS, aloneS, Bool.and_eq_true, Bool.or_eq_true, decide_eq_true_eq, beq_iff_eq] at h
 obtain ⟨⟨⟨h1, h2⟩, ⟨⟨h3, h4⟩, h5⟩, h6⟩, h7⟩ := h
 exact ⟨h1, h2, h3, h4, h5, h6, h7⟩
theorem right_nums {K : Int} {name value : List UInt8} {N M : Int} (h : RightS K name value N M = true) : 0 ≤ N ∧ N ≤ 1048576 ∧ 0 ≤ M ∧ M ≤ 1000 := by
 obtain ⟨h1, h2, h3, h4, h5, h6, h7⟩ := right_facts h
 rcases kind_of h with rfl | rfl | rfl | rfl | rfl | rfl | rfl | rfl | rfl | rfl | rfl | rfl
 ·have q4 : N = 0 := h4.resolve_left (by decide)
  have q5 : M = 0 := h5.resolve_left (by decide)
  omega
 ·have q4 : N = 0 := h4.resolve_left (by decide)
  have q5 : M = 0 := h5.resolve_left (by decide)
  omega
 ·have q4 : N = 0 := h4.resolve_left (by decide)
  have q5 : M = 0 := h5.resolve_left (by decide)
  omega
 ·have q4 : N = 0 := h4.resolve_left (by decide)
  have q5 : M = 0 := h5.resolve_left (by decide)
  omega
 ·have q4 : N = 0 := h4.resolve_left (by decide)
  have q5 : M = 0 := h5.resolve_left (by decide)
  omega
 ·have q4 : N = 0 := h4.resolve_left (by decide)
  have q5 : M = 0 := h5.resolve_left (by decide)
  omega
 ·have q4 : N = 0 := h4.resolve_left (by decide)
  have q5 : M = 0 := h5.resolve_left (by decide)
  omega
 ·have q4 : N = 0 := h4.resolve_left (by decide)
  have q5 : M = 0 := h5.resolve_left (by decide)
  omega
 ·simp only [show bodyS 9 name value N M = (decide (0 ≤ N) && decide (N ≤ 1000) && decide (1 ≤ M) && decide (M ≤ 1000)) from rfl, Bool.and_eq_true, decide_eq_true_eq] at h7
  omega
 ·have q5 : M = 0 := h5.resolve_left (by decide)
  simp only [show bodyS 10 name value N M = (decide (0 ≤ N) && decide (N ≤ 1048576)) from rfl, Bool.and_eq_true, decide_eq_true_eq] at h7
  omega
 ·have q5 : M = 0 := h5.resolve_left (by decide)
  simp only [show bodyS 11 name value N M = (codes.any (· == N) && pathS value) from rfl, Bool.and_eq_true, codes, List.any_cons, List.any_nil, Bool.or_eq_true, beq_iff_eq, Bool.false_eq_true, or_false] at h7
  omega
 ·have q5 : M = 0 := h5.resolve_left (by decide)
  simp only [show bodyS 12 name value N M = (decide (200 ≤ N) && decide (N ≤ 599) && value.all isText) from rfl, Bool.and_eq_true, decide_eq_true_eq] at h7
  omega
theorem join32 : ∀ (l : List (List UInt8)), Lib.join l [32] = joinC 32 l
 | [] => rfl
 | [x] => by rw [Lib.join_one]; rfl
 | x :: y :: l => by
  have := join32 (y :: l)
  rw [joinC, ← this]
  simp [Lib.join, List.intercalate]
theorem joinF {l : List (List UInt8)} (h1 : l.length ≤ 10) (h2 : (joinC 32 l).length ≤ 10000) : strings_Join.f l [32] = some (joinC 32 l) := by
 unfold strings_Join.f
 rw [join32, if_pos (by simp only [strings_Join.good, join32, Bool.and_eq_true, decide_eq_true_eq]; omega)]
theorem itoa_nat (n : Nat) : Lib.itoa (n : Int) = Lib.decDigits n := by
 unfold Lib.itoa
 rw [if_neg (by omega), Int.toNat_natCast]
theorem putF {n : Nat} (h : n ≤ 1048576) : number_Put.f (n : Int) = some (Lib.itoa (n : Int)) := by
 unfold number_Put.f number_Put.t strconv_Itoa.f
 have e : mx2 (n : Int) 0 = (n : Int) := by rw [mx2_eq]; omega
 rw [e, if_pos (by simp; omega)]
 rfl
theorem itoa_len {n : Nat} (h : n ≤ 1048576) : (Lib.itoa (n : Int)).length ≤ 7 := by
 rw [itoa_nat]
 exact decDigits_len 6 n (by omega)
theorem putR {n : Nat} (h : n ≤ 1048576) : ref1_Put.f (n : Int) = some (Lib.itoa (n : Int)) := by rw [ref1_PutD (by omega), itoa_nat]
theorem kn_len {j : Nat} (h : j < 12) : (kindNames.getD j []).length ≤ 9 := (show ∀ j : Fin 12, (kindNames.getD j.val []).length ≤ 9 by decide) ⟨j, h⟩
theorem val_tw {α : Type} (x : Tr α) : (Tr.twice x).val = x.val := rfl
theorem uses_f {K : Int} : ref25_uses.f K = some (bitS (hasV K) 0, bitS (hasV K) 1, bitS (hasV K) 2, bitS (hasV K) 3) := by
 by_cases h : 1 ≤ K ∧ K ≤ 12
 ·obtain ⟨n, rfl⟩ := kind_nat h
  exact (show ∀ n : Fin 12, ref25_uses.f ((n.val + 1 : Nat) : Int) = some (bitS (hasV ((n.val + 1 : Nat) : Int)) 0, bitS (hasV ((n.val + 1 : Nat) : Int)) 1, bitS (hasV ((n.val + 1 : Nat) : Int)) 2, bitS (hasV ((n.val + 1 : Nat) : Int)) 3) by decide +kernel) n
 ·have e : ∀ m : Int, 1 ≤ m → m ≤ 12 → (K == m) = false := fun m h1 h2 => by
   rw [beq_eq_false_iff_ne]; omega
  unfold ref25_uses.f ref25_uses.t hasV
  rw [if_neg h, e 1 (by decide) (by decide), vfalse, e 3 (by decide) (by decide), vfalse, e 4 (by decide) (by decide), vfalse, e 5 (by decide) (by decide), vfalse, e 2 (by decide) (by decide), vfalse, e 6 (by decide) (by decide), vfalse, e 7 (by decide) (by decide), vfalse, e 8 (by decide) (by decide), vfalse, e 9 (by decide) (by decide), vfalse, e 10 (by decide) (by decide), vfalse, e 11 (by decide) (by decide), vfalse, e 12 (by decide) (by decide), vfalse]
  rfl
theorem right_kind {K : Int} {name value : List UInt8} {N M : Int} (h : RightS K name value N M = true) : ∃ j : Nat, j < 12 ∧ K = ((j + 1 : Nat) : Int) := ⟨(K - 1).toNat, by have := kind_of h; omega, by have := kind_of h; omega⟩
set_option maxHeartbeats 4000000 in
theorem line_p {K : Int} {name value : List UInt8} {N M : Int} : rule_Line.f K name value N M = some (LineS K name value N M) := by
 unfold rule_Line.f rule_Line.t LineS
 rw [right_f, Tr.val_call rfl]
 by_cases h : RightS K name value N M = true
 ·obtain ⟨h1, h2, _⟩ := right_facts h
  obtain ⟨n0, n1, m0, m1⟩ := right_nums h
  obtain ⟨j, hj, hK⟩ := right_kind h
  have hi : IntKind.i64.wrap (K - 1) = (j : Int) := by rw [w64 (by omega) (by omega)]; omega
  have hi2 : (K - 1).toNat = j := by omega
  obtain ⟨n, rfl⟩ := Int.eq_ofNat_of_zero_le n0
  obtain ⟨m, rfl⟩ := Int.eq_ofNat_of_zero_le m0
  have hk := kn_len hj
  have ln := itoa_len (n := n) (by omega)
  have lm := itoa_len (n := m) (by omega)
  have hm := hasV_mem K
  unfold lineW
  rw [h, Bool.not_true, vfalse, if_pos rfl, fields_lit, Tr.val_call rfl, val_tw, hi, hi2, Tr.val_chk (by have : kindNames.length = 12 := rfl; omega), Nat.zero_add, Int.toNat_natCast, Tr.val_chk (by have : kindNames.length = 12 := rfl; omega), has_f, Tr.val_call rfl, putF (n := n) (by omega), Tr.val_call rfl, putF (n := m) (by omega), Tr.val_call rfl]
  generalize hasV K = v at hm ⊢
  have e0 : ∀ h ∈ [(0 : Int), 9, 1, 8, 6, 2, 10], (IntKind.i64.wrap (↑(BitVec.ofInt IntKind.i64.bits (h.fdiv ((2 : Int) ^ (0 : Nat))) &&& BitVec.ofInt IntKind.i64.bits (1 : Int)).toNat : Int) == (1 : Int)) = bitS h 0 := by decide +kernel
  have e1 : ∀ h ∈ [(0 : Int), 9, 1, 8, 6, 2, 10], (IntKind.i64.wrap (↑(BitVec.ofInt IntKind.i64.bits (h.fdiv ((2 : Int) ^ (1 : Nat))) &&& BitVec.ofInt IntKind.i64.bits (1 : Int)).toNat : Int) == (1 : Int)) = bitS h 1 := by decide +kernel
  have e2 : ∀ h ∈ [(0 : Int), 9, 1, 8, 6, 2, 10], (IntKind.i64.wrap (↑(BitVec.ofInt IntKind.i64.bits (h.fdiv ((2 : Int) ^ (2 : Nat))) &&& BitVec.ofInt IntKind.i64.bits (1 : Int)).toNat : Int) == (1 : Int)) = bitS h 2 := by decide +kernel
  have e3 : ∀ h ∈ [(0 : Int), 9, 1, 8, 6, 2, 10], (IntKind.i64.wrap (↑(BitVec.ofInt IntKind.i64.bits (h.fdiv ((2 : Int) ^ (3 : Nat))) &&& BitVec.ofInt IntKind.i64.bits (1 : Int)).toNat : Int) == (1 : Int)) = bitS h 3 := by decide +kernel
  rw [e0 v hm, e1 v hm, e2 v hm, e3 v hm]
  generalize bitS v 0 = a
  generalize bitS v 1 = b
  generalize bitS v 2 = c
  generalize bitS v 3 = d
  generalize kindNames.getD j [] = nm at hk ⊢
  generalize Lib.itoa (n : Int) = sn at ln ⊢
  generalize Lib.itoa (m : Int) = sm at lm ⊢
  have hJ : ∀ l : List (List UInt8), l.length ≤ 5 → (joinC 32 l).length ≤ 2000 → (Tr.call (strings_Join.f l [(32 : UInt8)]) fun y => Tr.ret (y, true)).val = some (joinC 32 l, true) := fun l hl hq => by
   rw [joinF (by omega) (by omega)]; rfl
  cases a <;> cases b <;> cases c <;> cases d <;> exact hJ _ (by simp) (by simp only [joinC, List.length_append, List.length_cons]; omega)
 ·have h' : RightS K name value N M = false := by simpa using h
  rw [h', if_neg (by simp)]; rfl
set_option maxHeartbeats 4000000 in
theorem line_r {K : Int} {name value : List UInt8} {N M : Int} : ref25_Line.f K name value N M = some (LineS K name value N M) := by
 unfold ref25_Line.f ref25_Line.t LineS
 rw [rright_f, Tr.val_call rfl]
 by_cases h : RightS K name value N M = true
 ·obtain ⟨h1, h2, _⟩ := right_facts h
  obtain ⟨n0, n1, m0, m1⟩ := right_nums h
  obtain ⟨j, hj, hK⟩ := right_kind h
  have hi : IntKind.i64.wrap (K - 1) = (j : Int) := by rw [w64 (by omega) (by omega)]; omega
  have hi2 : (K - 1).toNat = j := by omega
  obtain ⟨n, rfl⟩ := Int.eq_ofNat_of_zero_le n0
  obtain ⟨m, rfl⟩ := Int.eq_ofNat_of_zero_le m0
  have hk := kn_len hj
  have ln := itoa_len (n := n) (by omega)
  have lm := itoa_len (n := m) (by omega)
  unfold lineW
  rw [h, Bool.not_true, vfalse, if_pos rfl, uses_f, Tr.val_call rfl]
  simp only [names_f]
  rw [Tr.val_call rfl, hi, hi2, Tr.val_chk (by have : kindNames.length = 12 := rfl; omega), Nat.zero_add, Int.toNat_natCast, Tr.val_chk (by have : kindNames.length = 12 := rfl; omega)]
  simp only [putR (n := n) (by omega), putR (n := m) (by omega)]
  generalize bitS (hasV K) 0 = a
  generalize bitS (hasV K) 1 = b
  generalize bitS (hasV K) 2 = c
  generalize bitS (hasV K) 3 = d
  generalize kindNames.getD j [] = nm at hk ⊢
  generalize Lib.itoa (n : Int) = sn at ln ⊢
  generalize Lib.itoa (m : Int) = sm at lm ⊢
  have hR : ∀ l r : List UInt8, l = r → (Tr.ret (l, true)).val = some (r, true) := fun l r e => by rw [e]; rfl
  cases a <;> cases b <;> cases c <;> cases d <;> (repeat first | rw [vtrue] | rw [vfalse] | rw [Tr.val_call rfl] | rw [Tr.val_chk (by simp only [List.length_append, List.length_cons, List.length_nil]; omega)]) <;> exact hR _ _ (by simp only [lpieces, if_true, List.nil_append, List.cons_append, List.append_assoc, joinC, Bool.false_eq_true, if_false])
 ·have h' : RightS K name value N M = false := by simpa using h
  rw [h', if_neg (by simp)]; rfl
end Pl
end Go.Vx
end
section
set_option linter.unusedVariables false
set_option linter.unusedSimpArgs false
set_option maxRecDepth 100000
namespace Go.Vx
namespace Pl
open Go Go.Proofs
def cutK (u : Bool) (s : List UInt8) : List UInt8 × List UInt8 := if u = true then ((cutC 32 s).1, (cutC 32 s).2.1) else ([], s)
def decK (u : Bool) (most : Int) (w : List UInt8) : Int := if u = true then (numS 10 most w).1 else 0
abbrev RuleV := Int × List UInt8 × List UInt8 × Int × Int × Bool
def noRule : RuleV := (0, [], [], 0, 0, false)
def partsS (most : Int) (a b c d : Bool) (r : List UInt8) : List UInt8 × List UInt8 × Int × Int :=
 ((cutK a r).1, if d = true then (cutK c (cutK b (cutK a r).2).2).2 else [], decK b most (cutK b (cutK a r).2).1, decK c most (cutK c (cutK b (cutK a r).2).2).1)
def ruleOf (f : Bool) (K : Int) (s : List UInt8) (p : List UInt8 × List UInt8 × Int × Int) : RuleV :=
 if f = true ∧ LineS K p.1 p.2.1 p.2.2.1 p.2.2.2 = (s, true) then (K, p.1, p.2.1, p.2.2.1, p.2.2.2, true) else noRule
def ParseS (most : Int) (s : List UInt8) : RuleV :=
 ruleOf (kindS (cutC 32 s).1).2 (kindS (cutC 32 s).1).1 s (partsS most (bitS (hasV (kindS (cutC 32 s).1).1) 0) (bitS (hasV (kindS (cutC 32 s).1).1) 1) (bitS (hasV (kindS (cutC 32 s).1).1) 2) (bitS (hasV (kindS (cutC 32 s).1).1) 3) (cutC 32 s).2.1)
theorem LineS_off {K : Int} {name value : List UInt8} {N M : Int} (h : (LineS K name value N M).2 = false) : (LineS K name value N M).1 = [] := by
 unfold LineS at h ⊢
 split at h
 ·cases h
 ·rename_i h1; rw [if_neg h1]
theorem fin_p {f : Bool} {s : List UInt8} {K : Int} {nm v : List UInt8} {n m : Int} (hs : f = true → s ≠ []) :
  (Tr.call (some (LineS K nm v n m)) fun (y, _) => .br (!f) (.ret noRule) (.br (!y == s) (.ret noRule) (.ret (K, nm, v, n, m, true)))).val = some (ruleOf f K s (nm, v, n, m)) := by
 have ho := LineS_off (K := K) (name := nm) (value := v) (N := n) (M := m)
 unfold ruleOf
 rw [Tr.val_call rfl]
 generalize LineS K nm v n m = L at ho ⊢
 obtain ⟨y, o⟩ := L
 cases f
 ·rfl
 ·have hs := hs rfl
  by_cases h : y = s
  ·subst h
   cases o
   ·exact absurd (ho rfl) hs
   ·simp [Tr.val]
  ·have : (y == s) = false := by simpa using h
   simp [Tr.val, this, h, noRule]
theorem fin_r {s : List UInt8} {K : Int} {nm v : List UInt8} {n m : Int} :
  (Tr.call (some (LineS K nm v n m)) fun (y, o) => .br (!o) (.ret noRule) (.br (!y == s) (.ret noRule) (.ret (K, nm, v, n, m, true)))).val = some (ruleOf true K s (nm, v, n, m)) := by
 unfold ruleOf
 rw [Tr.val_call rfl]
 generalize LineS K nm v n m = L
 obtain ⟨y, o⟩ := L
 cases o
 ·simp [Tr.val, noRule]
 ·by_cases h : y = s
  ·subst h; simp [Tr.val]
  ·have : (y == s) = false := by simpa using h
   simp [Tr.val, this, h, noRule]
theorem kind_some {s : List UInt8} (h : (kindS (cutC 32 s).1).2 = true) : s ≠ [] := by
 intro e; subst e
 revert h; decide +kernel
set_option maxHeartbeats 8000000 in
theorem parse_p {s : List UInt8} (hn : s.length < 1073741824) : rule_Parse.f s = some (ParseS 1048576 s) := by
 have hs := kind_some (s := s)
 unfold ParseS
 rcases h0 : cutC 32 s with ⟨w0, r0, q0⟩
 rcases h1 : cutC 32 r0 with ⟨w1, r1, q1⟩
 rcases h2 : cutC 32 r1 with ⟨w2, r2, q2⟩
 rcases h3 : cutC 32 r2 with ⟨w3, r3, q3⟩
 have l0 := cut_len (c := 32) (s := s)
 have l1 := cut_len (c := 32) (s := r0)
 have l2 := cut_len (c := 32) (s := r1)
 have l3 := cut_len (c := 32) (s := r2)
 simp only [h0] at l0 hs
 simp only [h1] at l1
 simp only [h2] at l2
 simp only [h3] at l3
 have c0 : strings_Cut_sx20.f s = some (w0, r0, q0) := by rw [cut20_f (by omega), h0]
 have c1 : strings_Cut_sx20.f r0 = some (w1, r1, q1) := by rw [cut20_f (by omega), h1]
 have c2 : strings_Cut_sx20.f r1 = some (w2, r2, q2) := by rw [cut20_f (by omega), h2]
 have c3 : strings_Cut_sx20.f r2 = some (w3, r3, q3) := by rw [cut20_f (by omega), h3]
 have d1 : number_Dec.f w1 1048576 = some (numS 10 1048576 w1) := number_Dec_f (by decide) (by omega)
 have d2 : number_Dec.f w2 1048576 = some (numS 10 1048576 w2) := number_Dec_f (by decide) (by omega)
 have d3 : number_Dec.f w3 1048576 = some (numS 10 1048576 w3) := number_Dec_f (by decide) (by omega)
 rcases e1 : numS 10 1048576 w1 with ⟨v1, u1⟩
 rcases e2 : numS 10 1048576 w2 with ⟨v2, u2⟩
 rcases e3 : numS 10 1048576 w3 with ⟨v3, u3⟩
 rw [e1] at d1
 rw [e2] at d2
 rw [e3] at d3
 rcases hk : kindS w0 with ⟨K, f⟩
 simp only [hk] at hs
 have hm := hasV_mem K
 unfold rule_Parse.f rule_Parse.t
 rw [c0, Tr.val_call rfl]
 dsimp only
 rw [kind_f, hk, Tr.val_call rfl]
 dsimp only
 rw [has_f, Tr.val_call rfl]
 generalize hasV K = v at hm ⊢
 have b0 : ∀ h ∈ [(0 : Int), 9, 1, 8, 6, 2, 10], (IntKind.i64.wrap (↑(BitVec.ofInt IntKind.i64.bits h &&& BitVec.ofInt IntKind.i64.bits (1 : Int)).toNat : Int) != (0 : Int)) = bitS h 0 := by decide +kernel
 have b1 : ∀ h ∈ [(0 : Int), 9, 1, 8, 6, 2, 10], (IntKind.i64.wrap (↑(BitVec.ofInt IntKind.i64.bits (h.fdiv ((2 : Int) ^ (1 : Nat))) &&& BitVec.ofInt IntKind.i64.bits (1 : Int)).toNat : Int) == (1 : Int)) = bitS h 1 := by decide +kernel
 have b2 : ∀ h ∈ [(0 : Int), 9, 1, 8, 6, 2, 10], (IntKind.i64.wrap (↑(BitVec.ofInt IntKind.i64.bits (h.fdiv ((2 : Int) ^ (2 : Nat))) &&& BitVec.ofInt IntKind.i64.bits (1 : Int)).toNat : Int) == (1 : Int)) = bitS h 2 := by decide +kernel
 have b3 : ∀ h ∈ [(0 : Int), 9, 1, 8, 6, 2, 10], (IntKind.i64.wrap (↑(BitVec.ofInt IntKind.i64.bits h &&& BitVec.ofInt IntKind.i64.bits (8 : Int)).toNat : Int) != (0 : Int)) = bitS h 3 := by decide +kernel
 rw [b0 v hm, b1 v hm, b2 v hm, b3 v hm]
 show _ = some (ruleOf f K s (partsS 1048576 (bitS v 0) (bitS v 1) (bitS v 2) (bitS v 3) r0))
 generalize bitS v 0 = a
 generalize bitS v 1 = b
 generalize bitS v 2 = c
 generalize bitS v 3 = d
 have fin : ∀ {nm v : List UInt8} {n m : Int} {p : List UInt8 × List UInt8 × Int × Int}, p = (nm, v, n, m) → (Tr.call (rule_Line.f K nm v n m) fun (y, _) => .br (!f) (.ret noRule) (.br (!y == s) (.ret noRule) (.ret (K, nm, v, n, m, true)))).val = some (ruleOf f K s p) := fun {nm v n m p} hp => by
  rw [hp, line_p]; exact fin_p hs
 cases a <;> cases b <;> cases c <;> cases d <;> (repeat first | rw [vtrue] | rw [vfalse] | (rw [c1, Tr.val_call rfl]; dsimp only) | (rw [c2, Tr.val_call rfl]; dsimp only) | (rw [c3, Tr.val_call rfl]; dsimp only) | (rw [d1, Tr.val_call rfl]; dsimp only) | (rw [d2, Tr.val_call rfl]; dsimp only) | (rw [d3, Tr.val_call rfl]; dsimp only)) <;> exact fin (by simp only [partsS, cutK, decK, h1, h2, h3, e1, e2, e3, if_true, Bool.false_eq_true, if_false])
set_option maxHeartbeats 8000000 in
theorem parse_r {s : List UInt8} (hn : s.length < 1073741824) : ref25_Parse.f s = some (ParseS 1073741824 s) := by
 unfold ParseS
 rcases h0 : cutC 32 s with ⟨w0, r0, q0⟩
 rcases h1 : cutC 32 r0 with ⟨w1, r1, q1⟩
 rcases h2 : cutC 32 r1 with ⟨w2, r2, q2⟩
 rcases h3 : cutC 32 r2 with ⟨w3, r3, q3⟩
 have l0 := cut_len (c := 32) (s := s)
 have l1 := cut_len (c := 32) (s := r0)
 have l2 := cut_len (c := 32) (s := r1)
 have l3 := cut_len (c := 32) (s := r2)
 simp only [h0] at l0
 simp only [h1] at l1
 simp only [h2] at l2
 simp only [h3] at l3
 have c0 : ref25_word.f s = some (w0, r0) := by rw [rword_f (by omega), h0]
 have c1 : ref25_word.f r0 = some (w1, r1) := by rw [rword_f (by omega), h1]
 have c2 : ref25_word.f r1 = some (w2, r2) := by rw [rword_f (by omega), h2]
 have c3 : ref25_word.f r2 = some (w3, r3) := by rw [rword_f (by omega), h3]
 have d1 : ref1_Dec.f w1 1073741824 = some (numS 10 1073741824 w1) := ref1_Dec_f (most := 1073741824) (by decide) (by omega)
 have d2 : ref1_Dec.f w2 1073741824 = some (numS 10 1073741824 w2) := ref1_Dec_f (most := 1073741824) (by decide) (by omega)
 have d3 : ref1_Dec.f w3 1073741824 = some (numS 10 1073741824 w3) := ref1_Dec_f (most := 1073741824) (by decide) (by omega)
 rcases e1 : numS 10 1073741824 w1 with ⟨v1, u1⟩
 rcases e2 : numS 10 1073741824 w2 with ⟨v2, u2⟩
 rcases e3 : numS 10 1073741824 w3 with ⟨v3, u3⟩
 rw [e1] at d1
 rw [e2] at d2
 rw [e3] at d3
 rcases hk : kindS w0 with ⟨K, f⟩
 unfold ref25_Parse.f ref25_Parse.t
 rw [c0, Tr.val_call rfl]
 dsimp only
 rw [rkind_f, hk, Tr.val_call rfl]
 dsimp only
 cases f
 ·rfl
 rw [Bool.not_true, vfalse, uses_f, Tr.val_call rfl]
 dsimp only
 show _ = some (ruleOf true K s (partsS 1073741824 (bitS (hasV K) 0) (bitS (hasV K) 1) (bitS (hasV K) 2) (bitS (hasV K) 3) r0))
 generalize bitS (hasV K) 0 = a
 generalize bitS (hasV K) 1 = b
 generalize bitS (hasV K) 2 = c
 generalize bitS (hasV K) 3 = d
 have fin : ∀ {nm v : List UInt8} {n m : Int} {p : List UInt8 × List UInt8 × Int × Int}, p = (nm, v, n, m) → (Tr.call (ref25_Line.f K nm v n m) fun (y, o) => .br (!o) (.ret noRule) (.br (!y == s) (.ret noRule) (.ret (K, nm, v, n, m, true)))).val = some (ruleOf true K s p) := fun {nm v n m p} hp => by
  rw [hp, line_r]; exact fin_r
 cases a <;> cases b <;> cases c <;> cases d <;> (repeat first | rw [vtrue] | rw [vfalse] | (rw [c1, Tr.val_call rfl]; dsimp only) | (rw [c2, Tr.val_call rfl]; dsimp only) | (rw [c3, Tr.val_call rfl]; dsimp only) | (rw [d1, Tr.val_call rfl]; dsimp only) | (rw [d2, Tr.val_call rfl]; dsimp only) | (rw [d3, Tr.val_call rfl]; dsimp only)) <;> exact fin (by simp only [partsS, cutK, decK, h1, h2, h3, e1, e2, e3, if_true, Bool.false_eq_true, if_false])
theorem cut_join {x : List UInt8} {l : List (List UInt8)} (hx : x.contains 32 = false) : (cutC 32 (joinC 32 (x :: l))).1 = x ∧ (cutC 32 (joinC 32 (x :: l))).2.1 = joinC 32 l := by
 cases l with
 | nil => unfold cutC; rw [show joinC 32 [x] = x from rfl, if_neg (by rw [hx]; simp)]; exact ⟨rfl, rfl⟩
 | cons y l =>
  have hb := before_app (b := joinC 32 (y :: l)) hx
  unfold cutC
  rw [show joinC 32 (x :: y :: l) = x ++ 32 :: joinC 32 (y :: l) from rfl, if_pos (by simp)]
  exact hb
theorem cutK_join {u : Bool} {x : List UInt8} {l : List (List UInt8)} (hx : u = true → x.contains 32 = false) : cutK u (joinC 32 ((if u = true then [x] else []) ++ l)) = (if u = true then x else [], joinC 32 l) := by
 cases u
 ·rfl
 ·have := cut_join (l := l) (hx rfl)
  unfold cutK
  rw [if_pos rfl, if_pos rfl, if_pos rfl]
  exact Prod.ext this.1 this.2
theorem dc_no32 : ∀ n : Fin 10, (dc n.val == 32) = false := by decide +kernel
theorem decDigits_dig : ∀ (k n : Nat), n ≤ k → (Lib.decDigits n).all (isDig 10) = true ∧ Lib.decDigits n ≠ [] ∧ valN 10 0 (Lib.decDigits n) = n ∧ (Lib.decDigits n).contains 32 = false
 | 0, n, h => by
  have : n = 0 := by omega
  subst this
  decide +kernel
 | k + 1, n, h => by
  by_cases h1 : n < 10
  ·rw [decDigits_small h1]
   have h2 := dc_no32 ⟨n, h1⟩
   have h3 : ((32 : UInt8) == dc n) = false := by rw [beq_eq_false_iff_ne] at h2 ⊢; exact fun e => h2 e.symm
   exact ⟨by simp [dc_dig h1], by simp, by simp [valN, dc_hexv h1], by simpa using h3⟩
  ·rw [decDigits_step h1]
   obtain ⟨i1, i2, i3, i4⟩ := decDigits_dig k (n / 10) (by omega)
   have hm : n % 10 < 10 := by omega
   have h2 := dc_no32 ⟨n % 10, hm⟩
   have h3 : ((32 : UInt8) == dc (n % 10)) = false := by rw [beq_eq_false_iff_ne] at h2 ⊢; exact fun e => h2 e.symm
   refine ⟨by rw [List.all_append, i1]; simp [dc_dig hm], by simp, ?_, ?_⟩
   ·unfold valN at i3 ⊢
    rw [List.foldl_append, i3]
    simp [dc_hexv hm]
    omega
   ·rw [List.contains_eq_any_beq, List.any_append, ← List.contains_eq_any_beq, i4]
    simpa using h3
theorem itoa_read {n most : Nat} (h : n ≤ most) : (numS 10 (most : Int) (Lib.itoa (n : Int))).1 = (n : Int) := by
 rw [itoa_nat]
 obtain ⟨i1, i2, i3, _⟩ := decDigits_dig n n (Nat.le_refl _)
 unfold numS
 rw [i1, i3, if_neg (by simp [i2]), if_pos (by omega)]
theorem itoa_no32 (n : Nat) : (Lib.itoa (n : Int)).contains 32 = false := by
 rw [itoa_nat]; exact (decDigits_dig n n (Nat.le_refl _)).2.2.2
theorem all_no32 {p : UInt8 → Bool} (hp : p 32 = false) {s : List UInt8} (h : s.all p = true) : s.contains 32 = false := by
 rw [← Bool.not_eq_true]
 intro hc
 have := List.all_eq_true.1 h 32 (by simpa using hc)
 rw [hp] at this; cases this
theorem signs_no32 : ∀ (n : Nat) (s : List UInt8), s.length ≤ n → signsGo innerSigns true s = true → s.contains 32 = false
 | 0, s, h, _ => by
  have : s = [] := List.length_eq_zero_iff.1 (by omega)
  subst this; rfl
 | n + 1, [], _, _ => rfl
 | n + 1, c :: l, h, hg => by
  have hl : l.length ≤ n := by simp at h; omega
  have no : ∀ x : UInt8, x ≠ 32 → ((32 : UInt8) == x) = false := fun x hx => by rw [beq_eq_false_iff_ne]; exact fun e => hx e.symm
  unfold signsGo at hg
  split at hg
  ·rename_i hc
   have : c ≠ 32 := by intro e; subst e; revert hc; decide
   rw [List.contains_cons, no c this, signs_no32 n l hl hg]; rfl
  ·split at hg
   ·rename_i hc
    have h37 : c ≠ 32 := by intro e; subst e; revert hc; decide
    split at hg
    ·rename_i a b l'
     simp only [Bool.and_eq_true] at hg
     have ha : a ≠ 32 := by intro e; subst e; revert hg; simp [isHex, isDigit]
     have hb : b ≠ 32 := by intro e; subst e; revert hg; simp [isHex, isDigit]
     rw [List.contains_cons, List.contains_cons, List.contains_cons, no c h37, no a ha, no b hb, signs_no32 n l' (by simp at hl; omega) hg.2]; rfl
    ·cases hg
   ·cases hg
theorem name_no32 {K : Int} {name value : List UInt8} {N M : Int} (h : RightS K name value N M = true) (hb : bitS (hasV K) 0 = true) : name.contains 32 = false := by
 obtain ⟨h1, h2, h3, h4, h5, h6, h7⟩ := right_facts h
 have tok : plainS name value = true → name.contains 32 = false := fun hp => by
  simp only [plainS, fieldR, Bool.and_eq_true] at hp
  exact all_no32 (by decide) hp.1.1.1.2
 rcases kind_of h with rfl | rfl | rfl | rfl | rfl | rfl | rfl | rfl | rfl | rfl | rfl | rfl
 ·exact tok h7
 ·exact tok h7
 ·exact tok h7
 ·rw [show bodyS 4 name value N M = (decide (name.length ≤ 64) && decide (value.length ≤ 64) && pathS name && pathS value) from rfl] at h7
  simp only [Bool.and_eq_true, pathS] at h7
  exact signs_no32 _ _ (Nat.le_refl _) h7.1.2.2
 ·rw [show bodyS 5 name value N M = (wordS name && value.all isVis && value.contains 58) from rfl] at h7
  simp only [Bool.and_eq_true, wordS] at h7
  exact all_no32 (by decide +kernel) h7.1.1.2
 all_goals (exfalso; revert hb; decide)
theorem kind_name {j : Nat} (h : j < 12) : kindS (kindNames.getD j []) = (((j + 1 : Nat) : Int), true) ∧ (kindNames.getD j []).contains 32 = false :=
 (show ∀ j : Fin 12, kindS (kindNames.getD j.val []) = (((j.val + 1 : Nat) : Int), true) ∧ (kindNames.getD j.val []).contains 32 = false by decide +kernel) ⟨j, h⟩
theorem parse_line {K : Int} {name value : List UInt8} {N M : Int} {most : Nat} (hm : 1048576 ≤ most) (h : RightS K name value N M = true) : ParseS most (joinC 32 (lineW K name value N M)) = (K, name, value, N, M, true) := by
 have hL : LineS K name value N M = (joinC 32 (lineW K name value N M), true) := by unfold LineS; rw [if_pos h]
 obtain ⟨h1, h2, h3, h4, h5, h6, h7⟩ := right_facts h
 obtain ⟨n0, n1, m0, m1⟩ := right_nums h
 obtain ⟨j, hj, hK⟩ := right_kind h
 have hi2 : (K - 1).toNat = j := by omega
 obtain ⟨n, rfl⟩ := Int.eq_ofNat_of_zero_le n0
 obtain ⟨m, rfl⟩ := Int.eq_ofNat_of_zero_le m0
 have hno := name_no32 h
 obtain ⟨k1, k2⟩ := kind_name hj
 have rn := itoa_read (n := n) (most := most) (by omega)
 have rm := itoa_read (n := m) (most := most) (by omega)
 have sn := itoa_no32 n
 have sm := itoa_no32 m
 unfold ParseS
 generalize hs : joinC 32 (lineW K name value (n : Int) (m : Int)) = s at hL ⊢
 unfold lineW lpieces at hs
 rw [hi2] at hs
 have hc := cut_join (x := kindNames.getD j []) (l := (if bitS (hasV K) 0 = true then [name] else []) ++ ((if bitS (hasV K) 1 = true then [Lib.itoa (n : Int)] else []) ++ ((if bitS (hasV K) 2 = true then [Lib.itoa (m : Int)] else []) ++ if bitS (hasV K) 3 = true then [value] else []))) k2
 rw [hs] at hc
 rw [hc.1, hc.2, k1]
 show ruleOf true ((j + 1 : Nat) : Int) s (partsS most (bitS (hasV ((j + 1 : Nat) : Int)) 0) (bitS (hasV ((j + 1 : Nat) : Int)) 1) (bitS (hasV ((j + 1 : Nat) : Int)) 2) (bitS (hasV ((j + 1 : Nat) : Int)) 3) _) = _
 rw [← hK]
 have hp : partsS most (bitS (hasV K) 0) (bitS (hasV K) 1) (bitS (hasV K) 2) (bitS (hasV K) 3) (joinC 32 ((if bitS (hasV K) 0 = true then [name] else []) ++ ((if bitS (hasV K) 1 = true then [Lib.itoa (n : Int)] else []) ++ ((if bitS (hasV K) 2 = true then [Lib.itoa (m : Int)] else []) ++ if bitS (hasV K) 3 = true then [value] else [])))) = (name, value, (n : Int), (m : Int)) := by
  unfold partsS
  rw [cutK_join hno]
  simp only
  rw [cutK_join (fun _ => sn)]
  simp only
  rw [cutK_join (fun _ => sm)]
  simp only
  generalize bitS (hasV K) 0 = a at h3 ⊢
  generalize bitS (hasV K) 1 = b at h4 ⊢
  generalize bitS (hasV K) 2 = c at h5 ⊢
  generalize bitS (hasV K) 3 = d at h6 ⊢
  have q1 : (if a = true then name else []) = name := by
   cases a
   ·exact (h3.resolve_left (by simp)).symm
   ·rfl
  have q2 : decK b most (if b = true then Lib.itoa (n : Int) else []) = (n : Int) := by
   cases b
   ·exact (h4.resolve_left (by simp)).symm
   ·exact rn
  have q3 : decK c most (if c = true then Lib.itoa (m : Int) else []) = (m : Int) := by
   cases c
   ·exact (h5.resolve_left (by simp)).symm
   ·exact rm
  have q4 : (if d = true then joinC 32 (if d = true then [value] else []) else []) = value := by
   cases d
   ·exact (h6.resolve_left (by simp)).symm
   ·rfl
  rw [q1, q2, q3, q4]
 rw [hp]
 unfold ruleOf
 rw [if_pos ⟨rfl, hL⟩]
theorem parse_is {most : Int} {s : List UInt8} (h : ParseS most s ≠ noRule) : ∃ K name value N M, ParseS most s = (K, name, value, N, M, true) ∧ RightS K name value N M = true ∧ s = joinC 32 (lineW K name value N M) := by
 unfold ParseS ruleOf at h ⊢
 split at h
 ·rename_i h1
  rw [if_pos h1]
  refine ⟨_, _, _, _, _, rfl, ?_⟩
  have h2 := h1.2
  unfold LineS at h2
  split at h2
  ·rename_i h3
   exact ⟨h3, (Prod.mk.inj h2).1.symm⟩
  ·cases h2
 ·exact absurd rfl h
theorem parse_most {a b : Nat} (ha : 1048576 ≤ a) (hb : 1048576 ≤ b) (s : List UInt8) : ParseS a s = ParseS b s := by
 by_cases h : ParseS a s = noRule
 ·by_cases h' : ParseS b s = noRule
  ·rw [h, h']
  ·obtain ⟨K, name, value, N, M, e, hr, rfl⟩ := parse_is h'
   rw [parse_line ha hr, parse_line hb hr]
 ·obtain ⟨K, name, value, N, M, e, hr, rfl⟩ := parse_is h
  rw [parse_line ha hr, parse_line hb hr]
theorem parse_both {s : List UInt8} (hn : s.length < 1073741824) : ref25_Parse.f s = rule_Parse.f s := by
 rw [parse_r hn, parse_p hn]
 exact congrArg some (parse_most (a := 1073741824) (b := 1048576) (by decide) (by decide) s)
end Pl
end Go.Vx
end
section
set_option maxRecDepth 1000000
set_option maxHeartbeats 4000000
set_option synthInstance.maxSize 100000
set_option synthInstance.maxHeartbeats 400000
set_option linter.unusedVariables false
namespace Go.Vx
open Go Go.Vx Go.Proofs
namespace law25_known
def D : Dom := ⟨[], .nil⟩
def A : Dom := ⟨[], .bool⟩
def sel : List Nat := []
def t  : Tr (Bool) :=
 .call (rule_Parse.f [(114 : UInt8), (97 : UInt8), (116 : UInt8), (101 : UInt8), (32 : UInt8), (53 : UInt8), (32 : UInt8), (49 : UInt8)]) fun (y1a, y1b, y1c, y1d, y1e, y1f) =>
 .call (rule_Line.f y1a y1b y1c y1d y1e) fun (y2a, y2b) =>
 .call (rule_Parse.f [(114 : UInt8), (97 : UInt8), (116 : UInt8), (101 : UInt8), (32 : UInt8), (53 : UInt8)]) fun (_, _, _, _, _, y3f) =>
 .call (rule_Kind.f [(115 : UInt8), (116 : UInt8), (97 : UInt8), (116 : UInt8), (105 : UInt8), (99 : UInt8)]) fun (y4a, y4b) =>
 .br y1f (.br (y1a == (9 : Int)) (.br (y1d == (5 : Int)) (.br (y1e == (1 : Int)) (.br y2b (.br (y2a == [(114 : UInt8), (97 : UInt8), (116 : UInt8), (101 : UInt8), (32 : UInt8), (53 : UInt8), (32 : UInt8), (49 : UInt8)]) (.br (!y3f) (.br y4b (.br (y4a == (12 : Int)) (.call (rule_Right.f y1a y1b y1c y1d y1e) fun y5 =>
      .br y5 (.call (rule_Right.f (0 : Int) [] [] (0 : Int) (0 : Int)) fun y6 =>
      .ret (!y6))
      (.ret false))
     (.ret false))
     (.ret false))
    (.ret false))
    (.ret false))
   (.ret false))
   (.ret false))
  (.ret false))
  (.ret false))
 (.ret false)
def f  : Option (Bool) := (t ).val
def F (x : D.den) : Option (Bool) := f
def pa : D.den → (Bool) → A.den := fun (_, _) y1 => ((), y1)
def con : Con := tcon D A pa F
theorem ok : ConOk Tryz.prog 7 con := tcon_ok Base.mixed Base.prog_ok bk_seat_Rule_ok (by kernel_rfl) LapsOk.nil 9 (fun _ => rfl) (fun x => t ) (fun _ => rfl) fun _ _ _ => (by kernel_rfl)
end law25_known
def bk_law25_known : Book := bk_seat_Rule.add 7 law25_known.con
theorem bk_law25_known_ok : BookOk Tryz.prog bk_law25_known := bk_seat_Rule_ok.add law25_known.ok
namespace law25_RuleReads
def D : Dom := ⟨[], (.cat .str (.cat .byte (.cat .byte (.cat .byte .byte))))⟩
namespace L10
def D : Dom := ⟨[.vec .str 9 false], (.cat (.sl 0 1) (.cat (.int .i64) (.int .i64)))⟩
def A : Dom := ⟨[], .nil⟩
def B : Dom := ⟨[], .bool⟩
def sel : List Nat := [0, 1, 2]
def t (t61 : List (List UInt8)) (t62 : Int) (t63 : Int) : Tr ((Int) ⊕ ((Unit) ⊕ (Bool))) :=
 .br (decide (t63 < t62)) (.chk ((0 : Int) ≤ t63 ∧ t63 < (↑t61.length : Int)) <| .chk ((0 : Nat) + t63.toNat < t61.length) <| .call (rule_Parse.f (t61.getD ((0 : Nat) + t63.toNat) [])) fun (y1a, y1b, y1c, y1d, y1e, y1f) =>
  .call (ref25_Parse.f (t61.getD ((0 : Nat) + t63.toNat) [])) fun (y2a, y2b, y2c, y2d, y2e, y2f) =>
  .call (rule_Kind.f (t61.getD ((0 : Nat) + t63.toNat) [])) fun (y3a, y3b) =>
  .call (ref25_Kind.f (t61.getD ((0 : Nat) + t63.toNat) [])) fun (y4a, y4b) =>
  .br (!(y1a == y2a && (y1b == y2b && (y1c == y2c && (y1d == y2d && (y1e == y2e && true)))))) (.ret (.inr (.inr false)))
  (.br (!y1f == y2f) (.ret (.inr (.inr false)))
  (.br (y3a != y4a) (.ret (.inr (.inr false)))
   (.br (!y3b == y4b) (.ret (.inr (.inr false)))
   (.okl t61.length <| .ret (.inl (IntKind.i64.wrap (t63 + (1 : Int)))))))))
 (.ret (.inr (.inl ())))
def f (t61 : List (List UInt8)) (t62 : Int) (t63 : Int) : Option ((Unit) ⊕ (Bool)) := Loop (fun z : Int => t t61 t62 z) t63
def F (x : D.den) : Option ((Unit) ⊕ (Bool)) := f x.1.1 x.2.2.1 x.2.2.2
def pa : D.den → (Unit) → A.den := fun ((_, _), (_, (_, _))) _ => ((), ())
def pb : D.den → (Bool) → B.den := fun ((_, _), (_, (_, _))) y1 => ((), y1)
def lap : Lap := tlap2 10 106 [61, 62, 63] D (.exit 0) [] A .ret [10] B pa pb F
def pk (x : D.den) (z : Int) : D.den := ((x.1.1, ()), ((), (x.2.2.1, z)))
def un (x : D.den) : Int := x.2.2.2
def body (x : D.den) (z : Int) : Tr ((Int) ⊕ ((Unit) ⊕ (Bool))) := t x.1.1 x.2.2.1 z
theorem ok : LapOk Tryz.prog 0 (codeOf Tryz.prog 4) lap := tlap2_ok Base.mixed Base.prog_ok bk_law25_known_ok (by kernel_rfl) (by kernel_rfl) LapsOk.nil 9 pk un body (fun _ _ => rfl) (fun _ _ => rfl) (fun _ _ => rfl) (fun _ _ => rfl) (fun _ => rfl) fun _ _ _ _ => (by kernel_rfl)
end L10
def A : Dom := ⟨[], .bool⟩
def sel : List Nat := [0, 1, 2, 3, 4]
def t (s : List UInt8) (va : UInt8) (b : UInt8) (vat : UInt8) (c : UInt8) : Tr (Bool) :=
 .call (law25_known.f) fun y1 =>
 .br (!y1) (.ret false)
 (.br (decide ((↑s.length : Int) > (100 : Int))) (.ret true)
  (.call (seat_Rule.f (Int.ofNat va.toNat) (Int.ofNat b.toNat)) fun (y2a, y2b, y2c, y2d, y2e) =>
  .call (ref25_Line.f y2a y2b y2c y2d y2e) fun (y3a, _) =>
  .chk (y3a.length ≤ (140737488355328 : Nat)) <| .br (decide ((↑y3a.length : Int) > (0 : Int))) (.chk ((↑y3a.length : Int) ≠ (0 : Int)) <| .chk ((0 : Int) ≤ (IntKind.i64.wrap (Int.ofNat vat.toNat)).tmod (↑y3a.length : Int) ∧ (IntKind.i64.wrap (Int.ofNat vat.toNat)).tmod (↑y3a.length : Int) < (↑y3a.length : Int)) <| .chk ((0 : Nat) + ((IntKind.i64.wrap (Int.ofNat vat.toNat)).tmod (↑y3a.length : Int)).toNat < ([] ++ y3a).length) <| .chk ((0 : Int) ≤ Int.ofNat c.toNat ∧ Int.ofNat c.toNat < (256 : Int)) <| .chk ((0 : Nat) + y3a.length ≤ (([] ++ y3a).set ((0 : Nat) + ((IntKind.i64.wrap (Int.ofNat vat.toNat)).tmod (↑y3a.length : Int)).toNat) (UInt8.ofNat (Int.ofNat c.toNat).toNat)).length) <| .chk ((↑(y3a.length + [(32 : UInt8)].length) : Int) ≤ (9223372036854775807 : Int)) <| .chk ((↑(y3a.length + s.length) : Int) ≤ (9223372036854775807 : Int)) <| .chk ((↑([(99 : UInt8), (97 : UInt8), (112 : UInt8), (32 : UInt8)].length + s.length) : Int) ≤ (9223372036854775807 : Int)) <| .chk ((↑([(115 : UInt8), (116 : UInt8), (97 : UInt8), (116 : UInt8), (105 : UInt8), (99 : UInt8), (32 : UInt8), (50 : UInt8), (48 : UInt8), (48 : UInt8), (32 : UInt8)].length + s.length) : Int) ≤ (9223372036854775807 : Int)) <| .both (law25_RuleReads.L10.f [s, List.take y3a.length (List.drop (0 : Nat) (([] ++ y3a).set ((0 : Nat) + ((IntKind.i64.wrap (Int.ofNat vat.toNat)).tmod (↑y3a.length : Int)).toNat) (UInt8.ofNat (Int.ofNat c.toNat).toNat))), y3a ++ [(32 : UInt8)], y3a ++ s, [(99 : UInt8), (97 : UInt8), (112 : UInt8), (32 : UInt8)] ++ s, [(115 : UInt8), (116 : UInt8), (97 : UInt8), (116 : UInt8), (105 : UInt8), (99 : UInt8), (32 : UInt8), (50 : UInt8), (48 : UInt8), (48 : UInt8), (32 : UInt8)] ++ s, [(99 : UInt8), (97 : UInt8), (112 : UInt8), (32 : UInt8), (48 : UInt8), (48 : UInt8), (55 : UInt8)]] (7 : Int) (0 : Int)) (fun _ => .ret true)
   (fun y5 => .ret y5))
  (.chk ((0 : Nat) + y3a.length ≤ ([] ++ y3a).length) <| .chk ((↑(y3a.length + [(32 : UInt8)].length) : Int) ≤ (9223372036854775807 : Int)) <| .chk ((↑(y3a.length + s.length) : Int) ≤ (9223372036854775807 : Int)) <| .chk ((↑([(99 : UInt8), (97 : UInt8), (112 : UInt8), (32 : UInt8)].length + s.length) : Int) ≤ (9223372036854775807 : Int)) <| .chk ((↑([(115 : UInt8), (116 : UInt8), (97 : UInt8), (116 : UInt8), (105 : UInt8), (99 : UInt8), (32 : UInt8), (50 : UInt8), (48 : UInt8), (48 : UInt8), (32 : UInt8)].length + s.length) : Int) ≤ (9223372036854775807 : Int)) <| .both (law25_RuleReads.L10.f [s, List.take y3a.length (List.drop (0 : Nat) ([] ++ y3a)), y3a ++ [(32 : UInt8)], y3a ++ s, [(99 : UInt8), (97 : UInt8), (112 : UInt8), (32 : UInt8)] ++ s, [(115 : UInt8), (116 : UInt8), (97 : UInt8), (116 : UInt8), (105 : UInt8), (99 : UInt8), (32 : UInt8), (50 : UInt8), (48 : UInt8), (48 : UInt8), (32 : UInt8)] ++ s, [(99 : UInt8), (97 : UInt8), (112 : UInt8), (32 : UInt8), (48 : UInt8), (48 : UInt8), (55 : UInt8)]] (7 : Int) (0 : Int)) (fun _ => .ret true)
   (fun y7 => .ret y7))))
def f (s : List UInt8) (va : UInt8) (b : UInt8) (vat : UInt8) (c : UInt8) : Option (Bool) := (t s va b vat c).val
def F (x : D.den) : Option (Bool) := f x.2.1 x.2.2.1 x.2.2.2.1 x.2.2.2.2.1 x.2.2.2.2.2
def pa : D.den → (Bool) → A.den := fun (_, (_, (_, (_, (_, _))))) y1 => ((), y1)
def con : Con := tcon D A pa F
theorem ok : ConOk Tryz.prog 4 con := tcon_ok Base.mixed Base.prog_ok bk_law25_known_ok (by kernel_rfl) (.cons L10.ok (by kernel_rfl) (.nil)) 9 (fun _ => rfl) (fun x => t x.2.1 x.2.2.1 x.2.2.2.1 x.2.2.2.2.1 x.2.2.2.2.2) (fun _ => rfl) fun _ _ _ => (by kernel_rfl)
theorem law_ok (h : ∀ x, (lawCon [.str, .byte, .byte, .byte, .byte]).pre x → F x = some true) : ConOk Tryz.prog 4 (lawCon [.str, .byte, .byte, .byte, .byte]) := Go.Vx.law_ok ok h
end law25_RuleReads
end Go.Vx
end
section
set_option linter.unusedVariables false
set_option linter.unusedSimpArgs false
set_option maxRecDepth 100000
namespace Go.Vx
namespace Pl
open Go Go.Proofs
theorem known_f : law25_known.f = some true := by decide +kernel
theorem LineS_len {K : Int} {name value : List UInt8} {N M : Int} : (LineS K name value N M).1.length ≤ 2000 := by
 unfold LineS
 by_cases h : RightS K name value N M = true
 ·rw [if_pos h]
  obtain ⟨h1, h2, _⟩ := right_facts h
  obtain ⟨n0, n1, m0, m1⟩ := right_nums h
  obtain ⟨j, hj, hK⟩ := right_kind h
  have hi2 : (K - 1).toNat = j := by omega
  obtain ⟨n, rfl⟩ := Int.eq_ofNat_of_zero_le n0
  obtain ⟨m, rfl⟩ := Int.eq_ofNat_of_zero_le m0
  have hk := kn_len hj
  have ln := itoa_len (n := n) (by omega)
  have lm := itoa_len (n := m) (by omega)
  unfold lineW lpieces
  rw [hi2]
  generalize bitS (hasV K) 0 = a
  generalize bitS (hasV K) 1 = b
  generalize bitS (hasV K) 2 = c
  generalize bitS (hasV K) 3 = d
  generalize kindNames.getD j [] = nm at hk ⊢
  generalize Lib.itoa (n : Int) = sn at ln ⊢
  generalize Lib.itoa (m : Int) = sm at lm ⊢
  cases a <;> cases b <;> cases c <;> cases d <;> (simp only [joinC, if_true, Bool.false_eq_true, if_false, List.nil_append, List.cons_append, List.length_append, List.length_cons]; omega)
 ·rw [if_neg h]; simp
theorem tm_byte (a : UInt8) (m : Nat) : (Int.ofNat a.toNat).tmod (m : Int) = ((a.toNat % m : Nat) : Int) := rfl
theorem wr_byte (c : UInt8) : IntKind.i64.wrap (Int.ofNat c.toNat) = Int.ofNat c.toNat := by
 have := UInt8.toNat_lt c
 exact w64 (by simp) (by simp; omega)
theorem small_byte {n : Nat} (h : n < 256) : (UInt8.ofNat n).toNat = n := by
 show n % 256 = n
 omega
theorem seat_mod (a b a' b' : UInt8) (ha : a.toNat % 20 = a'.toNat % 20) (hb : b.toNat % 4 = b'.toNat % 4) : seat_Rule.f (Int.ofNat a.toNat) (Int.ofNat b.toNat) = seat_Rule.f (Int.ofNat a'.toNat) (Int.ofNat b'.toNat) := by
 have e : ∀ c : UInt8, (IntKind.i64.wrap (Int.ofNat c.toNat)).tmod (20 : Int) = ((c.toNat % 20 : Nat) : Int) := fun c => by
  rw [wr_byte]; exact tm_byte c 20
 have e4 : ∀ c : UInt8, (Int.ofNat c.toNat).tmod (4 : Int) = ((c.toNat % 4 : Nat) : Int) := fun c => tm_byte c 4
 unfold seat_Rule.f seat_Rule.t
 rw [e a, e a', e4 b, e4 b', ha, hb]
def seatGood (o : Option (Int × List UInt8 × List UInt8 × Int × Int)) : Bool := match o with
 | some (K, n, v, N, M) => rule_Right.f K n v N M == some true
 | none => false
theorem seat_all : ∀ (i : Fin 20) (j : Fin 4), seatGood (seat_Rule.f (Int.ofNat i.val) (Int.ofNat j.val)) = true := by decide +kernel
theorem seat_is (a b : UInt8) : ∃ K n v N M, seat_Rule.f (Int.ofNat a.toNat) (Int.ofNat b.toNat) = some (K, n, v, N, M) ∧ RightS K n v N M = true := by
 have h2 : a.toNat % 20 < 20 := by omega
 have h3 : b.toNat % 4 < 4 := by omega
 rw [seat_mod a b (UInt8.ofNat (a.toNat % 20)) (UInt8.ofNat (b.toNat % 4)) (by rw [small_byte (by omega)]; omega) (by rw [small_byte (by omega)]; omega), small_byte (by omega), small_byte (by omega)]
 have h := seat_all ⟨_, h2⟩ ⟨_, h3⟩
 unfold seatGood at h
 split at h
 ·rename_i K n v N M e
  refine ⟨K, n, v, N, M, e, ?_⟩
  rw [right_f] at h
  simpa using h
 ·cases h
theorem scan_none {α ρ : Type} {fin : ρ} : ∀ (l : List α) (k : Nat), scan (fun (_ : Nat) (_ : α) => (none : Option ρ)) fin k l = fin
 | [], _ => rfl
 | _ :: l, k => scan_none l (k + 1)
theorem reads_loop {l : List (List UInt8)} (h7 : l.length = 7) (hl : ∀ x ∈ l, x.length < 1073741824) : law25_RuleReads.L10.f l 7 0 = some (.inl ()) := by
 unfold law25_RuleReads.L10.f
 refine (Loop_scan l (fun _ _ => none) (Sum.inl () : Unit ⊕ Bool) (fun k c hk hc => ?_) ?_ (by omega)).trans (congrArg some (scan_none l 0))
 ·have hw := wS (k := k) (by omega)
  have d : decide ((k : Int) < 7) = true := by simp; omega
  have hn : c.length < 1073741824 := hl c (by rw [← hc]; exact List.getElem_mem hk)
  unfold law25_RuleReads.L10.t
  rw [d, vtrue, Tr.val_chk (by omega), Nat.zero_add, Int.toNat_natCast, getD_nat hk hc, Tr.val_chk hk, parse_both hn, parse_p hn, kind_f, rkind_f, hw, h7]
  generalize ParseS 1048576 c = r
  generalize kindS c = q
  obtain ⟨r1, r2, r3, r4, r5, r6⟩ := r
  obtain ⟨q1, q2⟩ := q
  rw [Tr.val_call rfl]
  dsimp only
  rw [Tr.val_call rfl]
  dsimp only
  rw [Tr.val_call rfl]
  dsimp only
  rw [Tr.val_call rfl]
  dsimp only
  simp only [beq_self_eq_true, Bool.and_self, Bool.not_true, bne_self_eq_false]
  cases r6 <;> cases q2 <;> rfl
 ·rw [h7]; rfl
set_option maxHeartbeats 4000000 in
theorem reads_ok (s : List UInt8) (va b vat c : UInt8) : law25_RuleReads.f s va b vat c = some true := by
 unfold law25_RuleReads.f law25_RuleReads.t
 rw [known_f, Tr.val_call rfl, Bool.not_true, vfalse]
 by_cases hs : s.length > 100
 ·rw [decide_eq_true (by omega)]; rfl
 rw [decide_eq_false (by omega), vfalse]
 obtain ⟨K, n, v, N, M, e, -⟩ := seat_is va b
 rw [e, Tr.val_call rfl]
 dsimp only
 rw [line_r]
 have hl := LineS_len (K := K) (name := n) (value := v) (N := N) (M := M)
 generalize LineS K n v N M = L at hl ⊢
 obtain ⟨y, o⟩ := L
 simp only at hl
 rw [Tr.val_call rfl]
 dsimp only
 have hc := UInt8.toNat_lt c
 rw [Tr.val_chk (by omega)]
 by_cases hy : y.length > 0
 ·have hm : vat.toNat % y.length < y.length := Nat.mod_lt _ hy
  rw [decide_eq_true (by omega), vtrue, wr_byte, tm_byte, Int.toNat_natCast, Tr.val_chk (by omega), Tr.val_chk (by omega), Tr.val_chk (by simp; omega), Tr.val_chk (by simp; omega), Tr.val_chk (by simp), Tr.val_chk (by simp; omega), Tr.val_chk (by simp; omega), Tr.val_chk (by simp; omega), Tr.val_chk (by simp; omega), reads_loop rfl (by simp; omega)]
  rfl
 ·rw [decide_eq_false (by omega), vfalse, Tr.val_chk (by simp), Tr.val_chk (by simp; omega), Tr.val_chk (by simp; omega), Tr.val_chk (by simp; omega), Tr.val_chk (by simp; omega), reads_loop rfl (by simp; omega)]
  rfl
end Pl
end Go.Vx
end
