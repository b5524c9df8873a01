/- Printed by a program of ours out of our texts: the evaluator, the printed functions, the plain laws. (A help: no statement of the seat is proved here.) -/
import Derived.Test.YtdbcghiconpjlaaGreatDoorPRuleTellsD
import Derived.KernelRfl
section
set_option linter.unusedVariables false
set_option linter.unusedSimpArgs false
set_option maxRecDepth 100000
namespace Go.Vx
namespace Pl
open Go Go.Proofs
def httpP : List UInt8 := [(104 : UInt8), 116, 116, 112, 58, 47, 47]
def originR (s : List UInt8) : Bool := s == [42] || (decide (7 ≤ s.length) && s.take 7 == httpP && hostS (s.drop 7))
theorem drop7 {s : List UInt8} : List.drop (Int.toNat (7 : Int)) (List.take (↑s.length : Int).toNat s) = s.drop 7 := by simp
theorem take7 {s : List UInt8} : List.drop (↑(0 : Nat) : Int).toNat (List.take (Int.toNat (7 : Int)) s) = s.take 7 := by simp
theorem httpPrefix_f (s : List UInt8) : strings_HasPrefix_shttpx3ax2fx2f.f s = some (decide (7 ≤ s.length) && s.take 7 == httpP) := by
 unfold strings_HasPrefix_shttpx3ax2fx2f.f strings_HasPrefix_shttpx3ax2fx2f.t internal_stringslite_HasPrefix_shttpx3ax2fx2f.f internal_stringslite_HasPrefix_shttpx3ax2fx2f.t
 rw [take7]
 by_cases h : 7 ≤ s.length
 ·rw [decide_eq_true (show (s.length : Int) ≥ 7 by omega), vtrue, Tr.val_chk (by omega), decide_eq_true h]; rfl
 ·rw [decide_eq_false (show ¬ (s.length : Int) ≥ 7 by omega), vfalse, decide_eq_false h]; rfl
theorem origin_p {s : List UInt8} (hn : s.length < 1073741824) : rule_origin.f s = some (originR s) := by
 unfold rule_origin.f rule_origin.t originR
 rw [httpPrefix_f, drop7, host_f (by simp; omega)]
 cases (s == [42])
 ·rw [vfalse, Tr.val_call rfl]
  by_cases h : 7 ≤ s.length
  ·rw [decide_eq_true h, Bool.true_and]
   cases (s.take 7 == httpP)
   ·rfl
   ·rw [vtrue, Tr.val_chk (by omega)]; simp [Tr.val]
  ·rw [decide_eq_false h]; rfl
 ·rfl
theorem origin_r {s : List UInt8} (hn : s.length < 1073741824) : ref25_origin.f s = some (originR s) := by
 unfold ref25_origin.f ref25_origin.t originR
 rw [drop7, take7, rHost_f (by simp; omega)]
 show (Tr.br (s == [42]) _ (Tr.br _ (Tr.chk _ <| Tr.br (s.take 7 == httpP) _ _) _)).val = _
 cases (s == [42])
 ·rw [vfalse]
  by_cases h : 7 < s.length
  ·rw [decide_eq_true (show (s.length : Int) > 7 by omega), vtrue, Tr.val_chk (by omega), decide_eq_true (show 7 ≤ s.length by omega)]
   cases (s.take 7 == httpP)
   ·rfl
   ·rw [vtrue, Tr.val_chk (by omega)]; simp [Tr.val]
  ·rw [decide_eq_false (show ¬ (s.length : Int) > 7 by omega), vfalse]
   by_cases h7 : s.length = 7
   ·have : s.drop 7 = [] := List.drop_eq_nil_of_le (by omega)
    rw [this, show hostS [] = false by decide]
    simp [Tr.val]
   ·rw [decide_eq_false (show ¬ 7 ≤ s.length by omega)]; rfl
 ·rfl
def codes : List Int := [301, 302, 307, 308]
set_option maxHeartbeats 4000000 in
theorem codes_f (N : Int) : slices_Contains.f [(301 : Int), 302, 307, 308] N = some (codes.any (· == N)) := by
 have hL : slices_Index_n2.L2.f codes N 4 0 = some (scan (idxStep (· == N)) (.inl ()) 0 codes) := by
  unfold slices_Index_n2.L2.f
  refine Loop_scan codes (idxStep (· == N)) (.inl ()) (fun k c hk hc => ?_) ?_ (by decide)
  ·have hw := wS (k := k) (by have : codes.length = 4 := rfl; omega)
   have hk4 : k < 4 := hk
   have d : decide ((k : Int) < 4) = true := by simp; omega
   unfold slices_Index_n2.L2.t idxStep
   rw [d, vtrue, Tr.val_chk (by have : codes.length = 4 := rfl; omega), Nat.zero_add, Int.toNat_natCast, getD_nat hk hc, Tr.val_chk hk, hw, show (N == c) = (c == N) from by rw [Bool.eq_iff_iff, beq_iff_eq, beq_iff_eq]; exact eq_comm]
   by_cases h : (c == N) = true
   ·simp only [h]; rfl
   ·have h' : (c == N) = false := by simpa using h
    simp only [h']; rfl
  ·rfl
 have hI : slices_Index_n2.f codes N = some (idxV (scan (idxStep (· == N)) (.inl ()) 0 codes)) := by
  unfold slices_Index_n2.f slices_Index_n2.t
  show (Tr.okl _ (Tr.both (slices_Index_n2.L2.f codes N 4 0) _ _)).val = _
  rw [hL]
  exact idx_t _ rfl
 unfold slices_Contains.f slices_Contains.t
 show (Tr.chk _ (Tr.call (slices_Index_n2.f (List.take codes.length (List.drop 0 codes)) N) _)).val = _
 rw [take_all, hI, Tr.val_chk (by decide), Tr.val_call rfl, idx_ge]
 rfl
def bodyS (K : Int) (name value : List UInt8) (N M : Int) : Bool :=
 if K = 1 ∨ K = 2 ∨ K = 3 then plainS name value
 else if K = 4 then decide (name.length ≤ 64) && decide (value.length ≤ 64) && pathS name && pathS value
 else if K = 5 then wordS name && value.all isVis && value.contains 58
 else if K = 6 then originR value
 else if K = 7 ∨ K = 8 then (netS value).2.2
 else if K = 9 then decide (0 ≤ N) && decide (N ≤ 1000) && decide (1 ≤ M) && decide (M ≤ 1000)
 else if K = 10 then decide (0 ≤ N) && decide (N ≤ 1048576)
 else if K = 11 then codes.any (· == N) && pathS value
 else if K = 12 then decide (200 ≤ N) && decide (N ≤ 599) && value.all isText
 else false
def RightS (K : Int) (name value : List UInt8) (N M : Int) : Bool := decide (name.length ≤ 256) && decide (value.length ≤ 256) && aloneS (hasV K) name value N M && bodyS K name value N M
set_option maxHeartbeats 4000000 in
theorem right_f {K : Int} {name value : List UInt8} {N M : Int} : rule_Right.f K name value N M = some (RightS K name value N M) := by
 unfold RightS
 by_cases h1 : name.length ≤ 256
 ·by_cases h2 : value.length ≤ 256
  ·rw [decide_eq_true h1, decide_eq_true h2, Bool.true_and, Bool.true_and]
   refine right_go h1 h2 rfl ?_
   by_cases k1 : K = 1
   ·subst k1; rw [show ((1 : Int) == 1) = true from rfl, vtrue, plain_f (by omega) (by omega)]; rfl
   rw [beq_false_of_ne k1, vfalse]
   by_cases k3 : K = 3
   ·subst k3; rw [show ((3 : Int) == 3) = true from rfl, vtrue, plain_f (by omega) (by omega)]; rfl
   rw [beq_false_of_ne k3, vfalse]
   by_cases k2 : K = 2
   ·subst k2; rw [show ((2 : Int) == 2) = true from rfl, vtrue, plain_f (by omega) (by omega)]; rfl
   rw [beq_false_of_ne k2, vfalse]
   by_cases k4 : K = 4
   ·subst k4
    have q1 : decide ((name.length : Int) ≤ 64) = decide (name.length ≤ 64) := decide_eq_decide.2 (by omega)
    have q2 : decide ((value.length : Int) ≤ 64) = decide (value.length ≤ 64) := decide_eq_decide.2 (by omega)
    rw [show ((4 : Int) == 4) = true from rfl, vtrue, q1, q2, path_f (by omega), path_f (by omega)]
    unfold bodyS
    rw [if_neg (by decide), if_pos rfl]
    cases decide (name.length ≤ 64) <;> cases decide (value.length ≤ 64) <;> cases pathS name <;> simp [Tr.val]
   rw [beq_false_of_ne k4, vfalse]
   by_cases k5 : K = 5
   ·subst k5
    rw [show ((5 : Int) == 5) = true from rfl, vtrue, word_f, Tr.val_call rfl, octet_All1 (by omega), contains3a_f, kind_vis]
    unfold bodyS
    rw [if_neg (by decide), if_neg (by decide), if_pos rfl]
    cases wordS name <;> cases value.all isVis <;> simp [Tr.val]
   rw [beq_false_of_ne k5, vfalse]
   by_cases k6 : K = 6
   ·subst k6; rw [show ((6 : Int) == 6) = true from rfl, vtrue, origin_p (by omega)]; rfl
   rw [beq_false_of_ne k6, vfalse]
   by_cases k7 : K = 7
   ·subst k7; rw [show ((7 : Int) == 7) = true from rfl, vtrue, net_Net_f (by omega)]; rfl
   rw [beq_false_of_ne k7, vfalse]
   by_cases k8 : K = 8
   ·subst k8; rw [show ((8 : Int) == 8) = true from rfl, vtrue, net_Net_f (by omega)]; rfl
   rw [beq_false_of_ne k8, vfalse]
   by_cases k9 : K = 9
   ·subst k9
    rw [show ((9 : Int) == 9) = true from rfl, vtrue]
    unfold bodyS
    rw [if_neg (by decide), if_neg (by decide), if_neg (by decide), if_neg (by decide), if_neg (by decide), if_pos rfl]
    show (Tr.br (decide (0 ≤ N)) (.br (decide (N ≤ 1000)) (.br (decide (1 ≤ M)) _ _) _) _).val = _
    cases decide (0 ≤ N) <;> cases decide (N ≤ 1000) <;> cases decide (1 ≤ M) <;> simp [Tr.val]
   rw [beq_false_of_ne k9, vfalse]
   by_cases k10 : K = 10
   ·subst k10
    rw [show ((10 : Int) == 10) = true from rfl, vtrue]
    unfold bodyS
    rw [if_neg (by decide), if_neg (by decide), if_neg (by decide), if_neg (by decide), if_neg (by decide), if_neg (by decide), if_pos rfl]
    show (Tr.br (decide (0 ≤ N)) _ _).val = _
    cases decide (0 ≤ N) <;> simp [Tr.val]
   rw [beq_false_of_ne k10, vfalse]
   by_cases k11 : K = 11
   ·subst k11
    rw [show ((11 : Int) == 11) = true from rfl, vtrue, codes_f, path_f (by omega)]
    unfold bodyS
    rw [if_neg (by decide), if_neg (by decide), if_neg (by decide), if_neg (by decide), if_neg (by decide), if_neg (by decide), if_neg (by decide), if_pos rfl]
    cases codes.any (· == N) <;> simp [Tr.val]
   rw [beq_false_of_ne k11, vfalse]
   by_cases k12 : K = 12
   ·subst k12
    rw [show ((12 : Int) == 12) = true from rfl, vtrue, octet_All1 (by omega), kind_text]
    unfold bodyS
    rw [if_neg (by decide), if_neg (by decide), if_neg (by decide), if_neg (by decide), if_neg (by decide), if_neg (by decide), if_neg (by decide), if_neg (by decide), if_pos rfl]
    show (Tr.br (decide (200 ≤ N)) _ _).val = _
    cases decide (200 ≤ N) <;> cases decide (N ≤ 599) <;> simp [Tr.val]
   rw [beq_false_of_ne k12, vfalse]
   unfold bodyS
   rw [if_neg (by omega), if_neg k4, if_neg k5, if_neg k6, if_neg (by omega), if_neg k9, if_neg k10, if_neg k11, if_neg k12]
   rfl
  ·rw [right_big (.inr (by omega)), decide_eq_false h2]; simp
 ·rw [right_big (.inl (by omega)), decide_eq_false h1]; simp
def pre (b c : Bool) (X : Tr Bool) : Tr Bool := match b with
 | true => X
 | false => .br c (.ret false) X
theorem pre_val {b c : Bool} {X : Tr Bool} {r : Bool} (h : X.val = some r) : (pre b c X).val = some ((b || !c) && r) := by
 cases b
 ·cases c
  ·simpa [pre, Tr.val] using h
  ·rfl
 ·simpa [pre] using h
def small (a b c d : Bool) (name value : List UInt8) (N M : Int) (X : Tr Bool) : Tr Bool :=
 pre a (!name == []) (pre b (N != (0 : Int)) (pre c (M != (0 : Int)) (pre d (!value == []) (.br (decide ((↑name.length : Int) > (256 : Int))) (.ret false) (.br (decide ((↑value.length : Int) > (256 : Int))) (.ret false) X)))))
theorem small_val {a b c d : Bool} {name value : List UInt8} {N M : Int} {X : Tr Bool} {r : Bool} (hX : name.length ≤ 256 → value.length ≤ 256 → X.val = some r) :
  (small a b c d name value N M X).val = some (decide (name.length ≤ 256) && decide (value.length ≤ 256) && ((a || name == []) && (b || N == 0) && (c || M == 0) && (d || value == [])) && r) := by
 have hc : (Tr.br (decide ((↑name.length : Int) > (256 : Int))) (.ret false) (.br (decide ((↑value.length : Int) > (256 : Int))) (.ret false) X)).val = some (decide (name.length ≤ 256) && decide (value.length ≤ 256) && r) := by
  by_cases h1 : name.length ≤ 256
  ·rw [decide_eq_false (show ¬ (name.length : Int) > 256 by omega), vfalse, decide_eq_true h1]
   by_cases h2 : value.length ≤ 256
   ·rw [decide_eq_false (show ¬ (value.length : Int) > 256 by omega), vfalse, decide_eq_true h2, hX h1 h2]; rfl
   ·rw [decide_eq_true (show (value.length : Int) > 256 by omega), vtrue, decide_eq_false h2]; rfl
  ·rw [decide_eq_true (show (name.length : Int) > 256 by omega), vtrue, decide_eq_false h1]; rfl
 unfold small
 rw [pre_val (pre_val (pre_val (pre_val hc)))]
 congr 1
 rw [show (!(!name == [])) = (name == []) from by cases (name == []) <;> rfl, show (!(!value == [])) = (value == []) from by cases (value == []) <;> rfl, show (!(N != (0 : Int))) = (N == 0) from by unfold bne; cases (N == 0) <;> rfl, show (!(M != (0 : Int))) = (M == 0) from by unfold bne; cases (M == 0) <;> rfl]
 generalize (name == []) = n0
 generalize (value == []) = v0
 generalize (N == (0 : Int)) = q0
 generalize (M == (0 : Int)) = m0
 generalize decide (name.length ≤ 256) = l1
 generalize decide (value.length ≤ 256) = l2
 cases a <;> cases b <;> cases c <;> cases d <;> cases n0 <;> cases v0 <;> cases q0 <;> cases m0 <;> cases l1 <;> cases l2 <;> rfl
theorem plain_free {name value : List UInt8} : plainS name value = (freeS name && fieldR name value) := by
 unfold plainS freeS fieldR
 cases (name == []) <;> cases name.all isTok <;> cases value.all isText <;> cases (trim value == value) <;> cases (fixedNames.any fun x => same x name) <;> rfl
theorem rr1 {name value : List UInt8} {N M : Int} : ref25_Right.f 1 name value N M = (small true false false true name value N M (.call (ref25_free.f name) fun y2 => .br y2 (.call (ref9_Right.f name value) fun y3 => .ret y3) (.ret false))).val := by kernel_rfl
theorem rr3 {name value : List UInt8} {N M : Int} : ref25_Right.f 3 name value N M = (small true false false true name value N M (.call (ref25_free.f name) fun y2 => .br y2 (.call (ref9_Right.f name value) fun y3 => .ret y3) (.ret false))).val := by kernel_rfl
theorem rr2 {name value : List UInt8} {N M : Int} : ref25_Right.f 2 name value N M = (small true false false false name value N M (.call (ref25_free.f name) fun y2 => .ret y2)).val := by kernel_rfl
theorem rr4 {name value : List UInt8} {N M : Int} : ref25_Right.f 4 name value N M = (small true false false true name value N M (.br (decide ((↑name.length : Int) ≤ (64 : Int))) (.br (decide ((↑value.length : Int) ≤ (64 : Int))) (.call (ref6_Path.f name) fun y7 => .br y7 (.call (ref6_Path.f value) fun y8 => .ret y8) (.ret false)) (.ret false)) (.ret false))).val := by kernel_rfl
theorem rr5 {name value : List UInt8} {N M : Int} : ref25_Right.f 5 name value N M = (small true false false true name value N M (.call (ref25_realm.f name) fun y9 => .br y9 (.call (ref1_All.f [(2 : Int)] value) fun y10 => .br y10 (.call (ref1_Split.f value (58 : Int)) fun y11 => .ret (decide ((↑y11.length : Int) > (1 : Int)))) (.ret false)) (.ret false))).val := by kernel_rfl
theorem rr6 {name value : List UInt8} {N M : Int} : ref25_Right.f 6 name value N M = (small false false false true name value N M (.call (ref25_origin.f value) fun y => .ret y)).val := by kernel_rfl
theorem rr7 {name value : List UInt8} {N M : Int} : ref25_Right.f 7 name value N M = (small false false false true name value N M (.call (ref22_Net.f value) fun y => .ret y.2.2)).val := by kernel_rfl
theorem rr8 {name value : List UInt8} {N M : Int} : ref25_Right.f 8 name value N M = (small false false false true name value N M (.call (ref22_Net.f value) fun y => .ret y.2.2)).val := by kernel_rfl
theorem rr9 {name value : List UInt8} {N M : Int} : ref25_Right.f 9 name value N M = (small false true true false name value N M (.br (decide (N ≥ (0 : Int))) (.br (decide (N ≤ (1000 : Int))) (.br (decide (M ≥ (1 : Int))) (.ret (decide (M ≤ (1000 : Int)))) (.ret false)) (.ret false)) (.ret false))).val := by kernel_rfl
theorem rr10 {name value : List UInt8} {N M : Int} : ref25_Right.f 10 name value N M = (small false true false false name value N M (.br (decide (N ≥ (0 : Int))) (.ret (decide (N ≤ (1048576 : Int)))) (.ret false))).val := by kernel_rfl
theorem rr11 {name value : List UInt8} {N M : Int} : ref25_Right.f 11 name value N M = (small false true false true name value N M (.br (N == (301 : Int)) (.call (ref6_Path.f value) fun y => .ret y) (.br (N == (302 : Int)) (.call (ref6_Path.f value) fun y => .ret y) (.br (N == (307 : Int)) (.call (ref6_Path.f value) fun y => .ret y) (.br (N == (308 : Int)) (.call (ref6_Path.f value) fun y => .ret y) (.ret false)))))).val := by kernel_rfl
theorem rr12 {name value : List UInt8} {N M : Int} : ref25_Right.f 12 name value N M = (small false true false true name value N M (.br (decide (N ≥ (200 : Int))) (.br (decide (N ≤ (599 : Int))) (.call (ref1_All.f [(6 : Int)] value) fun y => .ret y) (.ret false)) (.ret false))).val := by kernel_rfl
theorem split_colon {s : List UInt8} : decide (((splitC 58 s).length : Int) > 1) = s.contains 58 := by
 by_cases h : s.contains 58 = true
 ·rw [splitC_is h, h]
  have := List.length_pos_iff.2 (splitC_ne 58 (after 58 s))
  simp; omega
 ·rw [splitC_not (by simpa using h)]
  have : s.contains 58 = false := by simpa using h
  rw [this]; rfl
set_option maxHeartbeats 4000000 in
theorem rr_other {K : Int} {name value : List UInt8} {N M : Int} (h : ¬ (1 ≤ K ∧ K ≤ 12)) : ref25_Right.f K name value N M = (small false false false false name value N M (.ret false)).val := by
 have e : ∀ n : Int, 1 ≤ n → n ≤ 12 → (K == n) = false := fun n a b => beq_false_of_ne (by omega)
 have hu : ref25_uses.f K = some (false, false, false, false) := by
  unfold ref25_uses.f ref25_uses.t
  rw [e 1 (by decide) (by decide), e 2 (by decide) (by decide), e 3 (by decide) (by decide), e 4 (by decide) (by decide), e 5 (by decide) (by decide), e 6 (by decide) (by decide), e 7 (by decide) (by decide), e 8 (by decide) (by decide), e 9 (by decide) (by decide), e 10 (by decide) (by decide), e 11 (by decide) (by decide), e 12 (by decide) (by decide)]
  rfl
 unfold ref25_Right.f ref25_Right.t
 rw [hu, e 1 (by decide) (by decide), e 2 (by decide) (by decide), e 3 (by decide) (by decide), e 4 (by decide) (by decide), e 5 (by decide) (by decide), e 6 (by decide) (by decide), e 7 (by decide) (by decide), e 8 (by decide) (by decide), e 9 (by decide) (by decide), e 10 (by decide) (by decide), e 11 (by decide) (by decide), e 12 (by decide) (by decide)]
 show _ = _
 kernel_rfl
set_option maxHeartbeats 4000000 in
theorem rright_f {K : Int} {name value : List UInt8} {N M : Int} : ref25_Right.f K name value N M = some (RightS K name value N M) := by
 have al : ∀ h, aloneS h name value N M = ((bitS h 0 || name == []) && (bitS h 1 || N == 0) && (bitS h 2 || M == 0) && (bitS h 3 || value == [])) := fun _ => rfl
 unfold RightS
 rw [al]
 by_cases hk : 1 ≤ K ∧ K ≤ 12
 ·have hk' : K = 1 ∨ K = 2 ∨ K = 3 ∨ K = 4 ∨ K = 5 ∨ K = 6 ∨ K = 7 ∨ K = 8 ∨ K = 9 ∨ K = 10 ∨ K = 11 ∨ K = 12 := by omega
  rcases hk' with rfl | rfl | rfl | rfl | rfl | rfl | rfl | rfl | rfl | rfl | rfl | rfl
  ·rw [rr1, small_val (r := bodyS 1 name value N M) fun h1 h2 => ?_]
   ·rfl
   ·rw [free_f (by omega), rRight_f (by omega) (by omega)]
    show _ = some (plainS name value)
    rw [plain_free]
    cases freeS name <;> simp [Tr.val]
  ·rw [rr2, small_val (r := freeS name) fun h1 h2 => ?_]
   ·have hv : value ≠ [] ∨ value = [] := by by_cases h : value = [] <;> simp [h]
    rcases hv with hv | rfl
    ·have e0 : (value == []) = false := by simpa using hv
     have hb : bitS (hasV 2) 3 = false := by decide
     rw [hb, e0]
     simp
    ·have : bodyS 2 name [] N M = freeS name := by
      show plainS name [] = _
      unfold plainS fieldR freeS
      rw [show ([] : List UInt8).all isText = true from rfl, show (trim [] == []) = true from rfl]
      simp
     rw [this]
     rfl
   ·rw [free_f (by omega)]; rfl
  ·rw [rr3, small_val (r := bodyS 3 name value N M) fun h1 h2 => ?_]
   ·rfl
   ·rw [free_f (by omega), rRight_f (by omega) (by omega)]
    show _ = some (plainS name value)
    rw [plain_free]
    cases freeS name <;> simp [Tr.val]
  ·rw [rr4, small_val (r := bodyS 4 name value N M) fun h1 h2 => ?_]
   ·rfl
   ·have q1 : decide ((name.length : Int) ≤ 64) = decide (name.length ≤ 64) := decide_eq_decide.2 (by omega)
    have q2 : decide ((value.length : Int) ≤ 64) = decide (value.length ≤ 64) := decide_eq_decide.2 (by omega)
    rw [q1, q2, rPath_f (by omega), rPath_f (by omega)]
    unfold bodyS
    rw [if_neg (by decide), if_pos rfl]
    cases decide (name.length ≤ 64) <;> cases decide (value.length ≤ 64) <;> cases pathS name <;> simp [Tr.val]
  ·rw [rr5, small_val (r := bodyS 5 name value N M) fun h1 h2 => ?_]
   ·rfl
   ·have hs : ref1_Split.f value 58 = some (splitC 58 value) := ref1_Split_f (c := 58) (by omega)
    rw [realm_f (by omega), rAll1 (by omega), hs, kind_vis]
    unfold bodyS
    rw [if_neg (by decide), if_neg (by decide), if_pos rfl]
    cases wordS name
    ·rfl
    ·cases value.all isVis
     ·rfl
     ·show some (decide (((splitC 58 value).length : Int) > 1)) = _
      rw [split_colon]; rfl
  ·rw [rr6, small_val (r := bodyS 6 name value N M) fun h1 h2 => ?_]
   ·rfl
   ·rw [origin_r (by omega)]; rfl
  ·rw [rr7, small_val (r := bodyS 7 name value N M) fun h1 h2 => ?_]
   ·rfl
   ·rw [ref22_Net_f (by omega)]; rfl
  ·rw [rr8, small_val (r := bodyS 8 name value N M) fun h1 h2 => ?_]
   ·rfl
   ·rw [ref22_Net_f (by omega)]; rfl
  ·rw [rr9, small_val (r := bodyS 9 name value N M) fun h1 h2 => ?_]
   ·rfl
   ·unfold bodyS
    rw [if_neg (by decide), if_neg (by decide), if_neg (by decide), if_neg (by decide), if_neg (by decide), if_pos rfl]
    show (Tr.br (decide (0 ≤ N)) (.br (decide (N ≤ 1000)) (.br (decide (1 ≤ M)) _ _) _) _).val = _
    cases decide (0 ≤ N) <;> cases decide (N ≤ 1000) <;> cases decide (1 ≤ M) <;> simp [Tr.val]
  ·rw [rr10, small_val (r := bodyS 10 name value N M) fun h1 h2 => ?_]
   ·rfl
   ·unfold bodyS
    rw [if_neg (by decide), if_neg (by decide), if_neg (by decide), if_neg (by decide), if_neg (by decide), if_neg (by decide), if_pos rfl]
    show (Tr.br (decide (0 ≤ N)) _ _).val = _
    cases decide (0 ≤ N) <;> simp [Tr.val]
  ·rw [rr11, small_val (r := bodyS 11 name value N M) fun h1 h2 => ?_]
   ·rfl
   ·rw [rPath_f (by omega)]
    unfold bodyS
    rw [if_neg (by decide), if_neg (by decide), if_neg (by decide), if_neg (by decide), if_neg (by decide), if_neg (by decide), if_neg (by decide), if_pos rfl]
    have hc : codes.any (· == N) = ((N == 301) || (N == 302) || (N == 307) || (N == 308)) := by
     have e : ∀ n : Int, (n == N) = (N == n) := fun n => by rw [Bool.eq_iff_iff, beq_iff_eq, beq_iff_eq]; exact eq_comm
     simp only [codes, List.any_cons, List.any_nil, e, Bool.or_false, Bool.or_assoc]
    rw [hc]
    cases (N == 301) <;> cases (N == 302) <;> cases (N == 307) <;> cases (N == 308) <;> simp [Tr.val]
  ·rw [rr12, small_val (r := bodyS 12 name value N M) fun h1 h2 => ?_]
   ·rfl
   ·rw [rAll1 (by omega), kind_text]
    unfold bodyS
    rw [if_neg (by decide), if_neg (by decide), if_neg (by decide), if_neg (by decide), if_neg (by decide), if_neg (by decide), if_neg (by decide), if_neg (by decide), if_pos rfl]
    show (Tr.br (decide (200 ≤ N)) _ _).val = _
    cases decide (200 ≤ N) <;> cases decide (N ≤ 599) <;> simp [Tr.val]
 ·rw [rr_other hk, small_val (r := false) fun _ _ => rfl]
  have hb : bodyS K name value N M = false := by
   unfold bodyS
   rw [if_neg (by omega), if_neg (by omega), if_neg (by omega), if_neg (by omega), if_neg (by omega), if_neg (by omega), if_neg (by omega), if_neg (by omega), if_neg (by omega)]
  rw [hb, Bool.and_false, Bool.and_false]
end Pl
end Go.Vx
end
section
set_option linter.unusedVariables false
set_option linter.unusedSimpArgs false
set_option maxRecDepth 100000
namespace Go.Vx
namespace Pl
open Go Go.Proofs
def kindS (s : List UInt8) : Int × Bool := if kindNames.any (· == s) = true then (((kindNames.findIdx (· == s) + 1 : Nat) : Int), true) else (0, false)
theorem beq_flip (a b : List UInt8) : (a == b) = (b == a) := by rw [Bool.eq_iff_iff, beq_iff_eq, beq_iff_eq]; exact eq_comm
set_option maxHeartbeats 4000000 in
theorem kind_f (s : List UInt8) : rule_Kind.f s = some (kindS s) := by
 have hL : slices_Index.L2.f kindNames s 12 0 = some (scan (idxStep (· == s)) (.inl ()) 0 kindNames) := by
  unfold slices_Index.L2.f
  refine Loop_scan kindNames (idxStep (· == s)) (.inl ()) (fun k c hk hc => ?_) ?_ (by decide)
  ·have hk4 : k < 12 := hk
   have hl : kindNames.length = 12 := rfl
   have hw := wS (k := k) (by omega)
   have d : decide ((k : Int) < 12) = true := by simp; omega
   unfold slices_Index.L2.t idxStep
   rw [d, vtrue, Tr.val_chk (by omega), Nat.zero_add, Int.toNat_natCast, getD_nat hk hc, Tr.val_chk hk, hw, beq_flip]
   by_cases h : (c == s) = true
   ·simp only [h]; rfl
   ·have h' : (c == s) = false := by simpa using h
    simp only [h']; rfl
  ·rfl
 have hI : slices_Index.f kindNames s = some (idxV (scan (idxStep (· == s)) (.inl ()) 0 kindNames)) := by
  unfold slices_Index.f slices_Index.t
  show (Tr.okl _ (Tr.both (slices_Index.L2.f kindNames s 12 0) _ _)).val = _
  rw [hL]
  exact idx_t _ rfl
 unfold rule_Kind.f rule_Kind.t kindS
 rw [fields_lit, Tr.val_call rfl, take_all, hI, Tr.val_chk (by decide), Tr.val_call rfl, idx_scan]
 by_cases h : kindNames.any (· == s) = true
 ·have hf : kindNames.findIdx (· == s) ≤ kindNames.length := List.findIdx_le_length
  have hl : kindNames.length = 12 := rfl
  rw [if_pos h, if_pos h, decide_eq_false (by omega), vfalse, show (1 : Int) + ((0 + kindNames.findIdx (· == s) : Nat) : Int) = ((kindNames.findIdx (· == s) + 1 : Nat) : Int) by omega, w64 (by omega) (by omega)]
  rfl
 ·rw [if_neg h, if_neg h]; rfl
theorem names_f : ref25_names.f = some kindNames := by decide +kernel
theorem index20_f (s : List UInt8) : internal_stringslite_Index_sx20.f s = some (if s.contains 32 = true then ((before 32 s).length : Int) else -1) := by
 unfold internal_stringslite_Index_sx20.f internal_stringslite_Index_sx20.t
 rw [show (32 : Int) = ((32 : UInt8).toNat : Int) from rfl, slite_f]
 by_cases h : [(32 : UInt8)] = s
 ·have := before_one h
  simp only [Tr.val, beq_iff_eq.2 h, cond_true, this.1, this.2, if_true]
  rfl
 ·simp [Tr.val, beq_eq_false_iff_ne.2 h]
theorem cut20_f {s : List UInt8} (hn : s.length < 1125899906842624) : strings_Cut_sx20.f s = some (cutC 32 s) := by
 have h1 : internal_stringslite_Cut_sx20.f s = some (cutC 32 s) := by
  unfold internal_stringslite_Cut_sx20.f
  show (cutT (internal_stringslite_Index_sx20.f s) s).val = _
  rw [index20_f, cutT_f hn]
 unfold strings_Cut_sx20.f strings_Cut_sx20.t
 rw [h1]; rfl
end Pl
end Go.Vx
end
section
set_option linter.unusedVariables false
set_option linter.unusedSimpArgs false
set_option maxRecDepth 100000
namespace Go.Vx
namespace Pl
open Go Go.Proofs
def lpieces (a b c d : Bool) (nm name n m value : List UInt8) : List (List UInt8) := nm :: ((if a = true then [name] else []) ++ ((if b = true then [n] else []) ++ ((if c = true then [m] else []) ++ if d = true then [value] else [])))
def lineW (K : Int) (name value : List UInt8) (N M : Int) : List (List UInt8) := lpieces (bitS (hasV K) 0) (bitS (hasV K) 1) (bitS (hasV K) 2) (bitS (hasV K) 3) (kindNames.getD (K - 1).toNat []) name (Lib.itoa N) (Lib.itoa M) value
def LineS (K : Int) (name value : List UInt8) (N M : Int) : List UInt8 × Bool := if RightS K name value N M = true then (joinC 32 (lineW K name value N M), true) else ([], false)
theorem kind_of {K : Int} {name value : List UInt8} {N M : Int} (h : RightS K name value N M = true) : K = 1 ∨ K = 2 ∨ K = 3 ∨ K = 4 ∨ K = 5 ∨ K = 6 ∨ K = 7 ∨ K = 8 ∨ K = 9 ∨ K = 10 ∨ K = 11 ∨ K = 12 := by
 apply Classical.byContradiction
 intro hk
 have hb : bodyS K name value N M = false := by
  unfold bodyS
  rw [if_neg (by omega), if_neg (by omega), if_neg (by omega), if_neg (by omega), if_neg (by omega), if_neg (by omega), if_neg (by omega), if_neg (by omega), if_neg (by omega)]
 unfold RightS at h
 rw [hb, Bool.and_false] at h
 cases h
theorem right_facts {K : Int} {name value : List UInt8} {N M : Int} (h : RightS K name value N M = true) : name.length ≤ 256 ∧ value.length ≤ 256 ∧ (bitS (hasV K) 0 = true ∨ name = []) ∧ (bitS (hasV K) 1 = true ∨ N = 0) ∧ (bitS (hasV K) 2 = true ∨ M = 0) ∧ (bitS (hasV K) 3 = true ∨ value = []) ∧ bodyS K name value N M = true := by
 simp only [RightS, aloneS, Bool.and_eq_true, Bool.or_eq_true, decide_eq_true_eq, beq_iff_eq] at h
 obtain ⟨⟨⟨h1, h2⟩, ⟨⟨h3, h4⟩, h5⟩, h6⟩, h7⟩ := h
 exact ⟨h1, h2, h3, h4, h5, h6, h7⟩
theorem right_nums {K : Int} {name value : List UInt8} {N M : Int} (h : RightS K name value N M = true) : 0 ≤ N ∧ N ≤ 1048576 ∧ 0 ≤ M ∧ M ≤ 1000 := by
 obtain ⟨h1, h2, h3, h4, h5, h6, h7⟩ := right_facts h
 rcases kind_of h with rfl | rfl | rfl | rfl | rfl | rfl | rfl | rfl | rfl | rfl | rfl | rfl
 ·have q4 : N = 0 := h4.resolve_left (by decide)
  have q5 : M = 0 := h5.resolve_left (by decide)
  omega
 ·have q4 : N = 0 := h4.resolve_left (by decide)
  have q5 : M = 0 := h5.resolve_left (by decide)
  omega
 ·have q4 : N = 0 := h4.resolve_left (by decide)
  have q5 : M = 0 := h5.resolve_left (by decide)
  omega
 ·have q4 : N = 0 := h4.resolve_left (by decide)
  have q5 : M = 0 := h5.resolve_left (by decide)
  omega
 ·have q4 : N = 0 := h4.resolve_left (by decide)
  have q5 : M = 0 := h5.resolve_left (by decide)
  omega
 ·have q4 : N = 0 := h4.resolve_left (by decide)
  have q5 : M = 0 := h5.resolve_left (by decide)
  omega
 ·have q4 : N = 0 := h4.resolve_left (by decide)
  have q5 : M = 0 := h5.resolve_left (by decide)
  omega
 ·have q4 : N = 0 := h4.resolve_left (by decide)
  have q5 : M = 0 := h5.resolve_left (by decide)
  omega
 ·simp only [show bodyS 9 name value N M = (decide (0 ≤ N) && decide (N ≤ 1000) && decide (1 ≤ M) && decide (M ≤ 1000)) from rfl, Bool.and_eq_true, decide_eq_true_eq] at h7
  omega
 ·have q5 : M = 0 := h5.resolve_left (by decide)
  simp only [show bodyS 10 name value N M = (decide (0 ≤ N) && decide (N ≤ 1048576)) from rfl, Bool.and_eq_true, decide_eq_true_eq] at h7
  omega
 ·have q5 : M = 0 := h5.resolve_left (by decide)
  simp only [show bodyS 11 name value N M = (codes.any (· == N) && pathS value) from rfl, Bool.and_eq_true, codes, List.any_cons, List.any_nil, Bool.or_eq_true, beq_iff_eq, Bool.false_eq_true, or_false] at h7
  omega
 ·have q5 : M = 0 := h5.resolve_left (by decide)
  simp only [show bodyS 12 name value N M = (decide (200 ≤ N) && decide (N ≤ 599) && value.all isText) from rfl, Bool.and_eq_true, decide_eq_true_eq] at h7
  omega
theorem join32 : ∀ (l : List (List UInt8)), Lib.join l [32] = joinC 32 l
 | [] => rfl
 | [x] => by rw [Lib.join_one]; rfl
 | x :: y :: l => by
  have := join32 (y :: l)
  rw [joinC, ← this]
  simp [Lib.join, List.intercalate]
theorem joinF {l : List (List UInt8)} (h1 : l.length ≤ 10) (h2 : (joinC 32 l).length ≤ 10000) : strings_Join.f l [32] = some (joinC 32 l) := by
 unfold strings_Join.f
 rw [join32, if_pos (by simp only [strings_Join.good, join32, Bool.and_eq_true, decide_eq_true_eq]; omega)]
theorem itoa_nat (n : Nat) : Lib.itoa (n : Int) = Lib.decDigits n := by
 unfold Lib.itoa
 rw [if_neg (by omega), Int.toNat_natCast]
theorem putF {n : Nat} (h : n ≤ 1048576) : number_Put.f (n : Int) = some (Lib.itoa (n : Int)) := by
 unfold number_Put.f number_Put.t strconv_Itoa.f
 have e : mx2 (n : Int) 0 = (n : Int) := by rw [mx2_eq]; omega
 rw [e, if_pos (by simp; omega)]
 rfl
theorem itoa_len {n : Nat} (h : n ≤ 1048576) : (Lib.itoa (n : Int)).length ≤ 7 := by
 rw [itoa_nat]
 exact decDigits_len 6 n (by omega)
theorem putR {n : Nat} (h : n ≤ 1048576) : ref1_Put.f (n : Int) = some (Lib.itoa (n : Int)) := by rw [ref1_PutD (by omega), itoa_nat]
theorem kn_len {j : Nat} (h : j < 12) : (kindNames.getD j []).length ≤ 9 := (show ∀ j : Fin 12, (kindNames.getD j.val []).length ≤ 9 by decide) ⟨j, h⟩
theorem val_tw {α : Type} (x : Tr α) : (Tr.twice x).val = x.val := rfl
theorem uses_f {K : Int} : ref25_uses.f K = some (bitS (hasV K) 0, bitS (hasV K) 1, bitS (hasV K) 2, bitS (hasV K) 3) := by
 by_cases h : 1 ≤ K ∧ K ≤ 12
 ·obtain ⟨n, rfl⟩ := kind_nat h
  exact (show ∀ n : Fin 12, ref25_uses.f ((n.val + 1 : Nat) : Int) = some (bitS (hasV ((n.val + 1 : Nat) : Int)) 0, bitS (hasV ((n.val + 1 : Nat) : Int)) 1, bitS (hasV ((n.val + 1 : Nat) : Int)) 2, bitS (hasV ((n.val + 1 : Nat) : Int)) 3) by decide +kernel) n
 ·have e : ∀ m : Int, 1 ≤ m → m ≤ 12 → (K == m) = false := fun m h1 h2 => by
   rw [beq_eq_false_iff_ne]; omega
  unfold ref25_uses.f ref25_uses.t hasV
  rw [if_neg h, e 1 (by decide) (by decide), vfalse, e 3 (by decide) (by decide), vfalse, e 4 (by decide) (by decide), vfalse, e 5 (by decide) (by decide), vfalse, e 2 (by decide) (by decide), vfalse, e 6 (by decide) (by decide), vfalse, e 7 (by decide) (by decide), vfalse, e 8 (by decide) (by decide), vfalse, e 9 (by decide) (by decide), vfalse, e 10 (by decide) (by decide), vfalse, e 11 (by decide) (by decide), vfalse, e 12 (by decide) (by decide), vfalse]
  rfl
theorem right_kind {K : Int} {name value : List UInt8} {N M : Int} (h : RightS K name value N M = true) : ∃ j : Nat, j < 12 ∧ K = ((j + 1 : Nat) : Int) := ⟨(K - 1).toNat, by have := kind_of h; omega, by have := kind_of h; omega⟩
set_option maxHeartbeats 4000000 in
theorem line_p {K : Int} {name value : List UInt8} {N M : Int} : rule_Line.f K name value N M = some (LineS K name value N M) := by
 unfold rule_Line.f rule_Line.t LineS
 rw [right_f, Tr.val_call rfl]
 by_cases h : RightS K name value N M = true
 ·obtain ⟨h1, h2, _⟩ := right_facts h
  obtain ⟨n0, n1, m0, m1⟩ := right_nums h
  obtain ⟨j, hj, hK⟩ := right_kind h
  have hi : IntKind.i64.wrap (K - 1) = (j : Int) := by rw [w64 (by omega) (by omega)]; omega
  have hi2 : (K - 1).toNat = j := by omega
  obtain ⟨n, rfl⟩ := Int.eq_ofNat_of_zero_le n0
  obtain ⟨m, rfl⟩ := Int.eq_ofNat_of_zero_le m0
  have hk := kn_len hj
  have ln := itoa_len (n := n) (by omega)
  have lm := itoa_len (n := m) (by omega)
  have hm := hasV_mem K
  unfold lineW
  rw [h, Bool.not_true, vfalse, if_pos rfl, fields_lit, Tr.val_call rfl, val_tw, hi, hi2, Tr.val_chk (by have : kindNames.length = 12 := rfl; omega), Nat.zero_add, Int.toNat_natCast, Tr.val_chk (by have : kindNames.length = 12 := rfl; omega), has_f, Tr.val_call rfl, putF (n := n) (by omega), Tr.val_call rfl, putF (n := m) (by omega), Tr.val_call rfl]
  generalize hasV K = v at hm ⊢
  have e0 : ∀ h ∈ [(0 : Int), 9, 1, 8, 6, 2, 10], (IntKind.i64.wrap (↑(BitVec.ofInt IntKind.i64.bits (h.fdiv ((2 : Int) ^ (0 : Nat))) &&& BitVec.ofInt IntKind.i64.bits (1 : Int)).toNat : Int) == (1 : Int)) = bitS h 0 := by decide +kernel
  have e1 : ∀ h ∈ [(0 : Int), 9, 1, 8, 6, 2, 10], (IntKind.i64.wrap (↑(BitVec.ofInt IntKind.i64.bits (h.fdiv ((2 : Int) ^ (1 : Nat))) &&& BitVec.ofInt IntKind.i64.bits (1 : Int)).toNat : Int) == (1 : Int)) = bitS h 1 := by decide +kernel
  have e2 : ∀ h ∈ [(0 : Int), 9, 1, 8, 6, 2, 10], (IntKind.i64.wrap (↑(BitVec.ofInt IntKind.i64.bits (h.fdiv ((2 : Int) ^ (2 : Nat))) &&& BitVec.ofInt IntKind.i64.bits (1 : Int)).toNat : Int) == (1 : Int)) = bitS h 2 := by decide +kernel
  have e3 : ∀ h ∈ [(0 : Int), 9, 1, 8, 6, 2, 10], (IntKind.i64.wrap (↑(BitVec.ofInt IntKind.i64.bits (h.fdiv ((2 : Int) ^ (3 : Nat))) &&& BitVec.ofInt IntKind.i64.bits (1 : Int)).toNat : Int) == (1 : Int)) = bitS h 3 := by decide +kernel
  rw [e0 v hm, e1 v hm, e2 v hm, e3 v hm]
  generalize bitS v 0 = a
  generalize bitS v 1 = b
  generalize bitS v 2 = c
  generalize bitS v 3 = d
  generalize kindNames.getD j [] = nm at hk ⊢
  generalize Lib.itoa (n : Int) = sn at ln ⊢
  generalize Lib.itoa (m : Int) = sm at lm ⊢
  have hJ : ∀ l : List (List UInt8), l.length ≤ 5 → (joinC 32 l).length ≤ 2000 → (Tr.call (strings_Join.f l [(32 : UInt8)]) fun y => Tr.ret (y, true)).val = some (joinC 32 l, true) := fun l hl hq => by
   rw [joinF (by omega) (by omega)]; rfl
  cases a <;> cases b <;> cases c <;> cases d <;> exact hJ _ (by simp) (by simp only [joinC, List.length_append, List.length_cons]; omega)
 ·have h' : RightS K name value N M = false := by simpa using h
  rw [h', if_neg (by simp)]; rfl
set_option maxHeartbeats 4000000 in
theorem line_r {K : Int} {name value : List UInt8} {N M : Int} : ref25_Line.f K name value N M = some (LineS K name value N M) := by
 unfold ref25_Line.f ref25_Line.t LineS
 rw [rright_f, Tr.val_call rfl]
 by_cases h : RightS K name value N M = true
 ·obtain ⟨h1, h2, _⟩ := right_facts h
  obtain ⟨n0, n1, m0, m1⟩ := right_nums h
  obtain ⟨j, hj, hK⟩ := right_kind h
  have hi : IntKind.i64.wrap (K - 1) = (j : Int) := by rw [w64 (by omega) (by omega)]; omega
  have hi2 : (K - 1).toNat = j := by omega
  obtain ⟨n, rfl⟩ := Int.eq_ofNat_of_zero_le n0
  obtain ⟨m, rfl⟩ := Int.eq_ofNat_of_zero_le m0
  have hk := kn_len hj
  have ln := itoa_len (n := n) (by omega)
  have lm := itoa_len (n := m) (by omega)
  unfold lineW
  rw [h, Bool.not_true, vfalse, if_pos rfl, uses_f, Tr.val_call rfl]
  simp only [names_f]
  rw [Tr.val_call rfl, hi, hi2, Tr.val_chk (by have : kindNames.length = 12 := rfl; omega), Nat.zero_add, Int.toNat_natCast, Tr.val_chk (by have : kindNames.length = 12 := rfl; omega)]
  simp only [putR (n := n) (by omega), putR (n := m) (by omega)]
  generalize bitS (hasV K) 0 = a
  generalize bitS (hasV K) 1 = b
  generalize bitS (hasV K) 2 = c
  generalize bitS (hasV K) 3 = d
  generalize kindNames.getD j [] = nm at hk ⊢
  generalize Lib.itoa (n : Int) = sn at ln ⊢
  generalize Lib.itoa (m : Int) = sm at lm ⊢
  have hR : ∀ l r : List UInt8, l = r → (Tr.ret (l, true)).val = some (r, true) := fun l r e => by rw [e]; rfl
  cases a <;> cases b <;> cases c <;> cases d <;> (repeat first | rw [vtrue] | rw [vfalse] | rw [Tr.val_call rfl] | rw [Tr.val_chk (by simp only [List.length_append, List.length_cons, List.length_nil]; omega)]) <;> exact hR _ _ (by simp only [lpieces, if_true, List.nil_append, List.cons_append, List.append_assoc, joinC, Bool.false_eq_true, if_false])
 ·have h' : RightS K name value N M = false := by simpa using h
  rw [h', if_neg (by simp)]; rfl
end Pl
end Go.Vx
end
section
set_option linter.unusedVariables false
set_option linter.unusedSimpArgs false
set_option maxRecDepth 100000
namespace Go.Vx
namespace Pl
open Go Go.Proofs
def cutK (u : Bool) (s : List UInt8) : List UInt8 × List UInt8 := if u = true then ((cutC 32 s).1, (cutC 32 s).2.1) else ([], s)
def decK (u : Bool) (most : Int) (w : List UInt8) : Int := if u = true then (numS 10 most w).1 else 0
abbrev RuleV := Int × List UInt8 × List UInt8 × Int × Int × Bool
def noRule : RuleV := (0, [], [], 0, 0, false)
def partsS (most : Int) (a b c d : Bool) (r : List UInt8) : List UInt8 × List UInt8 × Int × Int :=
 ((cutK a r).1, if d = true then (cutK c (cutK b (cutK a r).2).2).2 else [], decK b most (cutK b (cutK a r).2).1, decK c most (cutK c (cutK b (cutK a r).2).2).1)
def ruleOf (f : Bool) (K : Int) (s : List UInt8) (p : List UInt8 × List UInt8 × Int × Int) : RuleV :=
 if f = true ∧ LineS K p.1 p.2.1 p.2.2.1 p.2.2.2 = (s, true) then (K, p.1, p.2.1, p.2.2.1, p.2.2.2, true) else noRule
def ParseS (most : Int) (s : List UInt8) : RuleV :=
 ruleOf (kindS (cutC 32 s).1).2 (kindS (cutC 32 s).1).1 s (partsS most (bitS (hasV (kindS (cutC 32 s).1).1) 0) (bitS (hasV (kindS (cutC 32 s).1).1) 1) (bitS (hasV (kindS (cutC 32 s).1).1) 2) (bitS (hasV (kindS (cutC 32 s).1).1) 3) (cutC 32 s).2.1)
theorem LineS_off {K : Int} {name value : List UInt8} {N M : Int} (h : (LineS K name value N M).2 = false) : (LineS K name value N M).1 = [] := by
 unfold LineS at h ⊢
 split at h
 ·cases h
 ·rename_i h1; rw [if_neg h1]
theorem fin_p {f : Bool} {s : List UInt8} {K : Int} {nm v : List UInt8} {n m : Int} (hs : f = true → s ≠ []) :
  (Tr.call (some (LineS K nm v n m)) fun (y, _) => .br (!f) (.ret noRule) (.br (!y == s) (.ret noRule) (.ret (K, nm, v, n, m, true)))).val = some (ruleOf f K s (nm, v, n, m)) := by
 have ho := LineS_off (K := K) (name := nm) (value := v) (N := n) (M := m)
 unfold ruleOf
 rw [Tr.val_call rfl]
 generalize LineS K nm v n m = L at ho ⊢
 obtain ⟨y, o⟩ := L
 cases f
 ·rfl
 ·have hs := hs rfl
  by_cases h : y = s
  ·subst h
   cases o
   ·exact absurd (ho rfl) hs
   ·simp [Tr.val]
  ·have : (y == s) = false := by simpa using h
   simp [Tr.val, this, h, noRule]
theorem kind_some {s : List UInt8} (h : (kindS (cutC 32 s).1).2 = true) : s ≠ [] := by
 intro e; subst e
 revert h; decide +kernel
set_option maxHeartbeats 8000000 in
theorem parse_p {s : List UInt8} (hn : s.length < 1073741824) : rule_Parse.f s = some (ParseS 1048576 s) := by
 have hs := kind_some (s := s)
 unfold ParseS
 rcases h0 : cutC 32 s with ⟨w0, r0, q0⟩
 rcases h1 : cutC 32 r0 with ⟨w1, r1, q1⟩
 rcases h2 : cutC 32 r1 with ⟨w2, r2, q2⟩
 rcases h3 : cutC 32 r2 with ⟨w3, r3, q3⟩
 have l0 := cut_len (c := 32) (s := s)
 have l1 := cut_len (c := 32) (s := r0)
 have l2 := cut_len (c := 32) (s := r1)
 have l3 := cut_len (c := 32) (s := r2)
 simp only [h0] at l0 hs
 simp only [h1] at l1
 simp only [h2] at l2
 simp only [h3] at l3
 have c0 : strings_Cut_sx20.f s = some (w0, r0, q0) := by rw [cut20_f (by omega), h0]
 have c1 : strings_Cut_sx20.f r0 = some (w1, r1, q1) := by rw [cut20_f (by omega), h1]
 have c2 : strings_Cut_sx20.f r1 = some (w2, r2, q2) := by rw [cut20_f (by omega), h2]
 have c3 : strings_Cut_sx20.f r2 = some (w3, r3, q3) := by rw [cut20_f (by omega), h3]
 have d1 : number_Dec.f w1 1048576 = some (numS 10 1048576 w1) := number_Dec_f (by decide) (by omega)
 have d2 : number_Dec.f w2 1048576 = some (numS 10 1048576 w2) := number_Dec_f (by decide) (by omega)
 have d3 : number_Dec.f w3 1048576 = some (numS 10 1048576 w3) := number_Dec_f (by decide) (by omega)
 rcases e1 : numS 10 1048576 w1 with ⟨v1, u1⟩
 rcases e2 : numS 10 1048576 w2 with ⟨v2, u2⟩
 rcases e3 : numS 10 1048576 w3 with ⟨v3, u3⟩
 rw [e1] at d1
 rw [e2] at d2
 rw [e3] at d3
 rcases hk : kindS w0 with ⟨K, f⟩
 simp only [hk] at hs
 have hm := hasV_mem K
 unfold rule_Parse.f rule_Parse.t
 rw [c0, Tr.val_call rfl]
 dsimp only
 rw [kind_f, hk, Tr.val_call rfl]
 dsimp only
 rw [has_f, Tr.val_call rfl]
 generalize hasV K = v at hm ⊢
 have b0 : ∀ h ∈ [(0 : Int), 9, 1, 8, 6, 2, 10], (IntKind.i64.wrap (↑(BitVec.ofInt IntKind.i64.bits h &&& BitVec.ofInt IntKind.i64.bits (1 : Int)).toNat : Int) != (0 : Int)) = bitS h 0 := by decide +kernel
 have b1 : ∀ h ∈ [(0 : Int), 9, 1, 8, 6, 2, 10], (IntKind.i64.wrap (↑(BitVec.ofInt IntKind.i64.bits (h.fdiv ((2 : Int) ^ (1 : Nat))) &&& BitVec.ofInt IntKind.i64.bits (1 : Int)).toNat : Int) == (1 : Int)) = bitS h 1 := by decide +kernel
 have b2 : ∀ h ∈ [(0 : Int), 9, 1, 8, 6, 2, 10], (IntKind.i64.wrap (↑(BitVec.ofInt IntKind.i64.bits (h.fdiv ((2 : Int) ^ (2 : Nat))) &&& BitVec.ofInt IntKind.i64.bits (1 : Int)).toNat : Int) == (1 : Int)) = bitS h 2 := by decide +kernel
 have b3 : ∀ h ∈ [(0 : Int), 9, 1, 8, 6, 2, 10], (IntKind.i64.wrap (↑(BitVec.ofInt IntKind.i64.bits h &&& BitVec.ofInt IntKind.i64.bits (8 : Int)).toNat : Int) != (0 : Int)) = bitS h 3 := by decide +kernel
 rw [b0 v hm, b1 v hm, b2 v hm, b3 v hm]
 show _ = some (ruleOf f K s (partsS 1048576 (bitS v 0) (bitS v 1) (bitS v 2) (bitS v 3) r0))
 generalize bitS v 0 = a
 generalize bitS v 1 = b
 generalize bitS v 2 = c
 generalize bitS v 3 = d
 have fin : ∀ {nm v : List UInt8} {n m : Int} {p : List UInt8 × List UInt8 × Int × Int}, p = (nm, v, n, m) → (Tr.call (rule_Line.f K nm v n m) fun (y, _) => .br (!f) (.ret noRule) (.br (!y == s) (.ret noRule) (.ret (K, nm, v, n, m, true)))).val = some (ruleOf f K s p) := fun {nm v n m p} hp => by
  rw [hp, line_p]; exact fin_p hs
 cases a <;> cases b <;> cases c <;> cases d <;> (repeat first | rw [vtrue] | rw [vfalse] | (rw [c1, Tr.val_call rfl]; dsimp only) | (rw [c2, Tr.val_call rfl]; dsimp only) | (rw [c3, Tr.val_call rfl]; dsimp only) | (rw [d1, Tr.val_call rfl]; dsimp only) | (rw [d2, Tr.val_call rfl]; dsimp only) | (rw [d3, Tr.val_call rfl]; dsimp only)) <;> exact fin (by simp only [partsS, cutK, decK, h1, h2, h3, e1, e2, e3, if_true, Bool.false_eq_true, if_false])
theorem cut_join {x : List UInt8} {l : List (List UInt8)} (hx : x.contains 32 = false) : (cutC 32 (joinC 32 (x :: l))).1 = x ∧ (cutC 32 (joinC 32 (x :: l))).2.1 = joinC 32 l := by
 cases l with
 | nil => unfold cutC; rw [show joinC 32 [x] = x from rfl, if_neg (by rw [hx]; simp)]; exact ⟨rfl, rfl⟩
 | cons y l =>
  have hb := before_app (b := joinC 32 (y :: l)) hx
  unfold cutC
  rw [show joinC 32 (x :: y :: l) = x ++ 32 :: joinC 32 (y :: l) from rfl, if_pos (by simp)]
  exact hb
theorem cutK_join {u : Bool} {x : List UInt8} {l : List (List UInt8)} (hx : u = true → x.contains 32 = false) : cutK u (joinC 32 ((if u = true then [x] else []) ++ l)) = (if u = true then x else [], joinC 32 l) := by
 cases u
 ·rfl
 ·have := cut_join (l := l) (hx rfl)
  unfold cutK
  rw [if_pos rfl, if_pos rfl, if_pos rfl]
  exact Prod.ext this.1 this.2
theorem dc_no32 : ∀ n : Fin 10, (dc n.val == 32) = false := by decide +kernel
theorem decDigits_dig : ∀ (k n : Nat), n ≤ k → (Lib.decDigits n).all (isDig 10) = true ∧ Lib.decDigits n ≠ [] ∧ valN 10 0 (Lib.decDigits n) = n ∧ (Lib.decDigits n).contains 32 = false
 | 0, n, h => by
  have : n = 0 := by omega
  subst this
  decide +kernel
 | k + 1, n, h => by
  by_cases h1 : n < 10
  ·rw [decDigits_small h1]
   have h2 := dc_no32 ⟨n, h1⟩
   have h3 : ((32 : UInt8) == dc n) = false := by rw [beq_eq_false_iff_ne] at h2 ⊢; exact fun e => h2 e.symm
   exact ⟨by simp [dc_dig h1], by simp, by simp [valN, dc_hexv h1], by simpa using h3⟩
  ·rw [decDigits_step h1]
   obtain ⟨i1, i2, i3, i4⟩ := decDigits_dig k (n / 10) (by omega)
   have hm : n % 10 < 10 := by omega
   have h2 := dc_no32 ⟨n % 10, hm⟩
   have h3 : ((32 : UInt8) == dc (n % 10)) = false := by rw [beq_eq_false_iff_ne] at h2 ⊢; exact fun e => h2 e.symm
   refine ⟨by rw [List.all_append, i1]; simp [dc_dig hm], by simp, ?_, ?_⟩
   ·unfold valN at i3 ⊢
    rw [List.foldl_append, i3]
    simp [dc_hexv hm]
    omega
   ·rw [List.contains_eq_any_beq, List.any_append, ← List.contains_eq_any_beq, i4]
    simpa using h3
theorem itoa_read {n most : Nat} (h : n ≤ most) : (numS 10 (most : Int) (Lib.itoa (n : Int))).1 = (n : Int) := by
 rw [itoa_nat]
 obtain ⟨i1, i2, i3, _⟩ := decDigits_dig n n (Nat.le_refl _)
 unfold numS
 rw [i1, i3, if_neg (by simp [i2]), if_pos (by omega)]
theorem itoa_no32 (n : Nat) : (Lib.itoa (n : Int)).contains 32 = false := by
 rw [itoa_nat]; exact (decDigits_dig n n (Nat.le_refl _)).2.2.2
theorem all_no32 {p : UInt8 → Bool} (hp : p 32 = false) {s : List UInt8} (h : s.all p = true) : s.contains 32 = false := by
 rw [← Bool.not_eq_true]
 intro hc
 have := List.all_eq_true.1 h 32 (by simpa using hc)
 rw [hp] at this; cases this
theorem signs_no32 : ∀ (n : Nat) (s : List UInt8), s.length ≤ n → signsGo innerSigns true s = true → s.contains 32 = false
 | 0, s, h, _ => by
  have : s = [] := List.length_eq_zero_iff.1 (by omega)
  subst this; rfl
 | n + 1, [], _, _ => rfl
 | n + 1, c :: l, h, hg => by
  have hl : l.length ≤ n := by simp at h; omega
  have no : ∀ x : UInt8, x ≠ 32 → ((32 : UInt8) == x) = false := fun x hx => by rw [beq_eq_false_iff_ne]; exact fun e => hx e.symm
  unfold signsGo at hg
  split at hg
  ·rename_i hc
   have : c ≠ 32 := by intro e; subst e; revert hc; decide
   rw [List.contains_cons, no c this, signs_no32 n l hl hg]; rfl
  ·split at hg
   ·rename_i hc
    have h37 : c ≠ 32 := by intro e; subst e; revert hc; decide
    split at hg
    ·rename_i a b l'
     simp only [Bool.and_eq_true] at hg
     have ha : a ≠ 32 := by intro e; subst e; revert hg; simp [isHex, isDigit]
     have hb : b ≠ 32 := by intro e; subst e; revert hg; simp [isHex, isDigit]
     rw [List.contains_cons, List.contains_cons, List.contains_cons, no c h37, no a ha, no b hb, signs_no32 n l' (by simp at hl; omega) hg.2]; rfl
    ·cases hg
   ·cases hg
theorem name_no32 {K : Int} {name value : List UInt8} {N M : Int} (h : RightS K name value N M = true) (hb : bitS (hasV K) 0 = true) : name.contains 32 = false := by
 obtain ⟨h1, h2, h3, h4, h5, h6, h7⟩ := right_facts h
 have tok : plainS name value = true → name.contains 32 = false := fun hp => by
  simp only [plainS, fieldR, Bool.and_eq_true] at hp
  exact all_no32 (by decide) hp.1.1.1.2
 rcases kind_of h with rfl | rfl | rfl | rfl | rfl | rfl | rfl | rfl | rfl | rfl | rfl | rfl
 ·exact tok h7
 ·exact tok h7
 ·exact tok h7
 ·rw [show bodyS 4 name value N M = (decide (name.length ≤ 64) && decide (value.length ≤ 64) && pathS name && pathS value) from rfl] at h7
  simp only [Bool.and_eq_true, pathS] at h7
  exact signs_no32 _ _ (Nat.le_refl _) h7.1.2.2
 ·rw [show bodyS 5 name value N M = (wordS name && value.all isVis && value.contains 58) from rfl] at h7
  simp only [Bool.and_eq_true, wordS] at h7
  exact all_no32 (by decide +kernel) h7.1.1.2
 all_goals (exfalso; revert hb; decide)
theorem kind_name {j : Nat} (h : j < 12) : kindS (kindNames.getD j []) = (((j + 1 : Nat) : Int), true) ∧ (kindNames.getD j []).contains 32 = false :=
 (show ∀ j : Fin 12, kindS (kindNames.getD j.val []) = (((j.val + 1 : Nat) : Int), true) ∧ (kindNames.getD j.val []).contains 32 = false by decide +kernel) ⟨j, h⟩
theorem parse_line {K : Int} {name value : List UInt8} {N M : Int} {most : Nat} (hm : 1048576 ≤ most) (h : RightS K name value N M = true) : ParseS most (joinC 32 (lineW K name value N M)) = (K, name, value, N, M, true) := by
 have hL : LineS K name value N M = (joinC 32 (lineW K name value N M), true) := by unfold LineS; rw [if_pos h]
 obtain ⟨h1, h2, h3, h4, h5, h6, h7⟩ := right_facts h
 obtain ⟨n0, n1, m0, m1⟩ := right_nums h
 obtain ⟨j, hj, hK⟩ := right_kind h
 have hi2 : (K - 1).toNat = j := by omega
 obtain ⟨n, rfl⟩ := Int.eq_ofNat_of_zero_le n0
 obtain ⟨m, rfl⟩ := Int.eq_ofNat_of_zero_le m0
 have hno := name_no32 h
 obtain ⟨k1, k2⟩ := kind_name hj
 have rn := itoa_read (n := n) (most := most) (by omega)
 have rm := itoa_read (n := m) (most := most) (by omega)
 have sn := itoa_no32 n
 have sm := itoa_no32 m
 unfold ParseS
 generalize hs : joinC 32 (lineW K name value (n : Int) (m : Int)) = s at hL ⊢
 unfold lineW lpieces at hs
 rw [hi2] at hs
 have hc := cut_join (x := kindNames.getD j []) (l := (if bitS (hasV K) 0 = true then [name] else []) ++ ((if bitS (hasV K) 1 = true then [Lib.itoa (n : Int)] else []) ++ ((if bitS (hasV K) 2 = true then [Lib.itoa (m : Int)] else []) ++ if bitS (hasV K) 3 = true then [value] else []))) k2
 rw [hs] at hc
 rw [hc.1, hc.2, k1]
 show ruleOf true ((j + 1 : Nat) : Int) s (partsS most (bitS (hasV ((j + 1 : Nat) : Int)) 0) (bitS (hasV ((j + 1 : Nat) : Int)) 1) (bitS (hasV ((j + 1 : Nat) : Int)) 2) (bitS (hasV ((j + 1 : Nat) : Int)) 3) _) = _
 rw [← hK]
 have hp : partsS most (bitS (hasV K) 0) (bitS (hasV K) 1) (bitS (hasV K) 2) (bitS (hasV K) 3) (joinC 32 ((if bitS (hasV K) 0 = true then [name] else []) ++ ((if bitS (hasV K) 1 = true then [Lib.itoa (n : Int)] else []) ++ ((if bitS (hasV K) 2 = true then [Lib.itoa (m : Int)] else []) ++ if bitS (hasV K) 3 = true then [value] else [])))) = (name, value, (n : Int), (m : Int)) := by
  unfold partsS
  rw [cutK_join hno]
  simp only
  rw [cutK_join (fun _ => sn)]
  simp only
  rw [cutK_join (fun _ => sm)]
  simp only
  generalize bitS (hasV K) 0 = a at h3 ⊢
  generalize bitS (hasV K) 1 = b at h4 ⊢
  generalize bitS (hasV K) 2 = c at h5 ⊢
  generalize bitS (hasV K) 3 = d at h6 ⊢
  have q1 : (if a = true then name else []) = name := by
   cases a
   ·exact (h3.resolve_left (by simp)).symm
   ·rfl
  have q2 : decK b most (if b = true then Lib.itoa (n : Int) else []) = (n : Int) := by
   cases b
   ·exact (h4.resolve_left (by simp)).symm
   ·exact rn
  have q3 : decK c most (if c = true then Lib.itoa (m : Int) else []) = (m : Int) := by
   cases c
   ·exact (h5.resolve_left (by simp)).symm
   ·exact rm
  have q4 : (if d = true then joinC 32 (if d = true then [value] else []) else []) = value := by
   cases d
   ·exact (h6.resolve_left (by simp)).symm
   ·rfl
  rw [q1, q2, q3, q4]
 rw [hp]
 unfold ruleOf
 rw [if_pos ⟨rfl, hL⟩]
end Pl
end Go.Vx
end
section
set_option maxRecDepth 1000000
set_option maxHeartbeats 4000000
set_option synthInstance.maxSize 100000
set_option synthInstance.maxHeartbeats 400000
set_option linter.unusedVariables false
namespace Go.Vx
open Go Go.Vx Go.Proofs
namespace law25_known
def D : Dom := ⟨[], .nil⟩
def A : Dom := ⟨[], .bool⟩
def sel : List Nat := []
def t  : Tr (Bool) :=
 .call (rule_Parse.f [(114 : UInt8), (97 : UInt8), (116 : UInt8), (101 : UInt8), (32 : UInt8), (53 : UInt8), (32 : UInt8), (49 : UInt8)]) fun (y1a, y1b, y1c, y1d, y1e, y1f) =>
 .call (rule_Line.f y1a y1b y1c y1d y1e) fun (y2a, y2b) =>
 .call (rule_Parse.f [(114 : UInt8), (97 : UInt8), (116 : UInt8), (101 : UInt8), (32 : UInt8), (53 : UInt8)]) fun (_, _, _, _, _, y3f) =>
 .call (rule_Kind.f [(115 : UInt8), (116 : UInt8), (97 : UInt8), (116 : UInt8), (105 : UInt8), (99 : UInt8)]) fun (y4a, y4b) =>
 .br y1f (.br (y1a == (9 : Int)) (.br (y1d == (5 : Int)) (.br (y1e == (1 : Int)) (.br y2b (.br (y2a == [(114 : UInt8), (97 : UInt8), (116 : UInt8), (101 : UInt8), (32 : UInt8), (53 : UInt8), (32 : UInt8), (49 : UInt8)]) (.br (!y3f) (.br y4b (.br (y4a == (12 : Int)) (.call (rule_Right.f y1a y1b y1c y1d y1e) fun y5 =>
      .br y5 (.call (rule_Right.f (0 : Int) [] [] (0 : Int) (0 : Int)) fun y6 =>
      .ret (!y6))
      (.ret false))
     (.ret false))
     (.ret false))
    (.ret false))
    (.ret false))
   (.ret false))
   (.ret false))
  (.ret false))
  (.ret false))
 (.ret false)
def f  : Option (Bool) := (t ).val
def F (x : D.den) : Option (Bool) := f
def pa : D.den → (Bool) → A.den := fun (_, _) y1 => ((), y1)
def con : Con := tcon D A pa F
theorem ok : ConOk Tryz.prog 7 con := tcon_ok Base.mixed Base.prog_ok bk_seat_Rule_ok (by kernel_rfl) LapsOk.nil 9 (fun _ => rfl) (fun x => t ) (fun _ => rfl) fun _ _ _ => (by kernel_rfl)
end law25_known
def bk_law25_known : Book := bk_seat_Rule.add 7 law25_known.con
theorem bk_law25_known_ok : BookOk Tryz.prog bk_law25_known := bk_seat_Rule_ok.add law25_known.ok
namespace help_Rule
def D : Dom := ⟨[], (.agg (.cat (.int .i64) (.cat .str (.cat .str (.cat (.int .i64) (.int .i64))))))⟩
def A : Dom := ⟨[], .bool⟩
def sel : List Nat := [1, 2]
def t (Name : List UInt8) (Value : List UInt8) : Tr (Bool) :=
 .ret (decide (IntKind.i64.wrap ((↑Name.length : Int) + (↑Value.length : Int)) < (600 : Int)))
def f (Name : List UInt8) (Value : List UInt8) : Option (Bool) := (t Name Value).val
def F (x : D.den) : Option (Bool) := f x.2.2.1 x.2.2.2.1
def pa : D.den → (Bool) → A.den := fun (_, (_, (_, (_, (_, _))))) y1 => ((), y1)
def con : Con := tcon D A pa F
theorem ok : ConOk Tryz.prog 8 con := tcon_ok Base.mixed Base.prog_ok bk_law25_known_ok (by kernel_rfl) LapsOk.nil 9 (fun _ => rfl) (fun x => t x.2.2.1 x.2.2.2.1) (fun _ => rfl) fun _ _ _ => (by kernel_rfl)
end help_Rule
def bk_help_Rule : Book := bk_law25_known.add 8 help_Rule.con
theorem bk_help_Rule_ok : BookOk Tryz.prog bk_help_Rule := bk_law25_known_ok.add help_Rule.ok
namespace law25_bent
def D : Dom := ⟨[], (.cat (.agg (.cat (.int .i64) (.cat .str (.cat .str (.cat (.int .i64) (.int .i64)))))) (.cat (.int .u8) (.cat .str (.int .i64))))⟩
def A : Dom := help_Rule.D
def sel : List Nat := [0, 1, 2, 3, 4, 5, 6, 7]
def t (Kind : Int) (Name : List UInt8) (Value : List UInt8) (N : Int) (M : Int) (what : Int) (s : List UInt8) (v : Int) : Tr (Int × List UInt8 × List UInt8 × Int × Int) :=
 .br (what.tmod (5 : Int) == (0 : Int)) (.ret (IntKind.i64.wrap (↑(BitVec.ofInt IntKind.i64.bits v &&& BitVec.ofInt IntKind.i64.bits (15 : Int)).toNat : Int), Name, Value, N, M))
 (.br (what.tmod (5 : Int) == (1 : Int)) (.ret (Kind, s, Value, N, M))
  (.br (what.tmod (5 : Int) == (2 : Int)) (.ret (Kind, Name, s, N, M))
  (.br (what.tmod (5 : Int) == (3 : Int)) (.ret (Kind, Name, Value, v, M))
   (.ret (Kind, Name, Value, N, v)))))
def f (Kind : Int) (Name : List UInt8) (Value : List UInt8) (N : Int) (M : Int) (what : Int) (s : List UInt8) (v : Int) : Option (Int × List UInt8 × List UInt8 × Int × Int) := (t Kind Name Value N M what s v).val
def F (x : D.den) : Option (Int × List UInt8 × List UInt8 × Int × Int) := f x.2.1.1 x.2.1.2.1 x.2.1.2.2.1 x.2.1.2.2.2.1 x.2.1.2.2.2.2 x.2.2.1 x.2.2.2.1 x.2.2.2.2
def pa : D.den → (Int × List UInt8 × List UInt8 × Int × Int) → A.den := fun (_, ((_, (_, (_, (_, _)))), (_, (_, _)))) (y1, y2, y3, y4, y5) => ((), (y1, (y2, (y3, (y4, y5)))))
def con : Con := tcon D A pa F
theorem ok : ConOk Tryz.prog 10 con := tcon_ok Base.mixed Base.prog_ok bk_help_Rule_ok (by kernel_rfl) LapsOk.nil 9 (fun _ => rfl) (fun x => t x.2.1.1 x.2.1.2.1 x.2.1.2.2.1 x.2.1.2.2.2.1 x.2.1.2.2.2.2 x.2.2.1 x.2.2.2.1 x.2.2.2.2) (fun _ => rfl) fun _ _ _ => (by kernel_rfl)
end law25_bent
def bk_law25_bent : Book := bk_help_Rule.add 10 law25_bent.con
theorem bk_law25_bent_ok : BookOk Tryz.prog bk_law25_bent := bk_help_Rule_ok.add law25_bent.ok
namespace law25_RuleTells
def D : Dom := ⟨[], (.cat (.agg (.cat (.int .i64) (.cat .str (.cat .str (.cat (.int .i64) (.int .i64)))))) (.cat .byte (.cat .byte (.cat .byte (.cat .str (.int .i64))))))⟩
namespace L7
def D : Dom := ⟨[.cells (.cat (.int .i64) (.cat .str (.cat .str (.cat (.int .i64) (.int .i64))))) 23 false, .vec (.pair (.int .i64) (.pair .str (.pair .str (.pair (.int .i64) (.int .i64))))) 23 false], (.cat (.ptr 0 0 0 0) (.cat (.sl 1 5) (.cat (.int .i64) (.int .i64))))⟩
def A : Dom := ⟨[.cells (.cat (.int .i64) (.cat .str (.cat .str (.cat (.int .i64) (.int .i64))))) 23 false], (.ptr 0 0 0 0)⟩
def B : Dom := ⟨[], .bool⟩
def sel : List Nat := [5, 6, 7]
def t (t52 : List (Int × List UInt8 × List UInt8 × Int × Int)) (t53 : Int) (t54 : Int) : Tr ((Int) ⊕ ((Unit) ⊕ (Bool))) :=
 .br (decide (t54 < t53)) (.chk ((0 : Int) ≤ t54 ∧ t54 < (↑t52.length : Int)) <| .chk ((0 : Nat) + t54.toNat < t52.length) <| .call (rule_Line.f ((t52.getD ((0 : Nat) + t54.toNat) ((0 : Int), [], [], (0 : Int), (0 : Int))).fst) ((t52.getD ((0 : Nat) + t54.toNat) ((0 : Int), [], [], (0 : Int), (0 : Int))).snd.fst) ((t52.getD ((0 : Nat) + t54.toNat) ((0 : Int), [], [], (0 : Int), (0 : Int))).snd.snd.fst) ((t52.getD ((0 : Nat) + t54.toNat) ((0 : Int), [], [], (0 : Int), (0 : Int))).snd.snd.snd.fst) ((t52.getD ((0 : Nat) + t54.toNat) ((0 : Int), [], [], (0 : Int), (0 : Int))).snd.snd.snd.snd)) fun (y1a, y1b) =>
  .call (ref25_Line.f ((t52.getD ((0 : Nat) + t54.toNat) ((0 : Int), [], [], (0 : Int), (0 : Int))).fst) ((t52.getD ((0 : Nat) + t54.toNat) ((0 : Int), [], [], (0 : Int), (0 : Int))).snd.fst) ((t52.getD ((0 : Nat) + t54.toNat) ((0 : Int), [], [], (0 : Int), (0 : Int))).snd.snd.fst) ((t52.getD ((0 : Nat) + t54.toNat) ((0 : Int), [], [], (0 : Int), (0 : Int))).snd.snd.snd.fst) ((t52.getD ((0 : Nat) + t54.toNat) ((0 : Int), [], [], (0 : Int), (0 : Int))).snd.snd.snd.snd)) fun (y2a, y2b) =>
  .call (rule_Right.f ((t52.getD ((0 : Nat) + t54.toNat) ((0 : Int), [], [], (0 : Int), (0 : Int))).fst) ((t52.getD ((0 : Nat) + t54.toNat) ((0 : Int), [], [], (0 : Int), (0 : Int))).snd.fst) ((t52.getD ((0 : Nat) + t54.toNat) ((0 : Int), [], [], (0 : Int), (0 : Int))).snd.snd.fst) ((t52.getD ((0 : Nat) + t54.toNat) ((0 : Int), [], [], (0 : Int), (0 : Int))).snd.snd.snd.fst) ((t52.getD ((0 : Nat) + t54.toNat) ((0 : Int), [], [], (0 : Int), (0 : Int))).snd.snd.snd.snd)) fun y3 =>
  .call (ref25_Right.f ((t52.getD ((0 : Nat) + t54.toNat) ((0 : Int), [], [], (0 : Int), (0 : Int))).fst) ((t52.getD ((0 : Nat) + t54.toNat) ((0 : Int), [], [], (0 : Int), (0 : Int))).snd.fst) ((t52.getD ((0 : Nat) + t54.toNat) ((0 : Int), [], [], (0 : Int), (0 : Int))).snd.snd.fst) ((t52.getD ((0 : Nat) + t54.toNat) ((0 : Int), [], [], (0 : Int), (0 : Int))).snd.snd.snd.fst) ((t52.getD ((0 : Nat) + t54.toNat) ((0 : Int), [], [], (0 : Int), (0 : Int))).snd.snd.snd.snd)) fun y4 =>
  .br (!y3 == y4) (.ret (.inr (.inr false)))
  (.br (!y1b == y2b) (.ret (.inr (.inr false)))
  (.br (!y1a == y2a) (.ret (.inr (.inr false)))
   (.br y2b (.call (rule_Parse.f y1a) fun (y5a, y5b, y5c, y5d, y5e, y5f) =>
    .br (!y5f) (.ret (.inr (.inr false)))
    (.br (!(y5a == (t52.getD ((0 : Nat) + t54.toNat) ((0 : Int), [], [], (0 : Int), (0 : Int))).fst && (y5b == (t52.getD ((0 : Nat) + t54.toNat) ((0 : Int), [], [], (0 : Int), (0 : Int))).snd.fst && (y5c == (t52.getD ((0 : Nat) + t54.toNat) ((0 : Int), [], [], (0 : Int), (0 : Int))).snd.snd.fst && (y5d == (t52.getD ((0 : Nat) + t54.toNat) ((0 : Int), [], [], (0 : Int), (0 : Int))).snd.snd.snd.fst && (y5e == (t52.getD ((0 : Nat) + t54.toNat) ((0 : Int), [], [], (0 : Int), (0 : Int))).snd.snd.snd.snd && true)))))) (.ret (.inr (.inr false)))
    (.okl t52.length <| .ret (.inl (IntKind.i64.wrap (t54 + (1 : Int)))))))
   (.okl t52.length <| .ret (.inl (IntKind.i64.wrap (t54 + (1 : Int)))))))))
 (.ret (.inr (.inl ())))
def f (t52 : List (Int × List UInt8 × List UInt8 × Int × Int)) (t53 : Int) (t54 : Int) : Option ((Unit) ⊕ (Bool)) := Loop (fun z : Int => t t52 t53 z) t54
def F (x : D.den) : Option ((Unit) ⊕ (Bool)) := f x.1.2.1 x.2.2.2.1 x.2.2.2.2
def pa : D.den → (Unit) → A.den := fun (((Kind, (Name, (Value, (N, M)))), (_, _)), (_, (_, (_, _)))) _ => (((Kind, (Name, (Value, (N, M)))), ()), ())
def pb : D.den → (Bool) → B.den := fun (((_, (_, (_, (_, _)))), (_, _)), (_, (_, (_, _)))) y1 => ((), y1)
def lap : Lap := tlap2 7 99 [13, 52, 53, 54] D (.exit 0) [13] A .ret [12] B pa pb F
def pk (x : D.den) (z : Int) : D.den := (((x.1.1.1, (x.1.1.2.1, (x.1.1.2.2.1, (x.1.1.2.2.2.1, x.1.1.2.2.2.2)))), (x.1.2.1, ())), ((), ((), (x.2.2.2.1, z))))
def un (x : D.den) : Int := x.2.2.2.2
def body (x : D.den) (z : Int) : Tr ((Int) ⊕ ((Unit) ⊕ (Bool))) := t x.1.2.1 x.2.2.2.1 z
theorem ok : LapOk Tryz.prog 0 (codeOf Tryz.prog 3) lap := tlap2_ok Base.mixed Base.prog_ok bk_law25_bent_ok (by kernel_rfl) (by kernel_rfl) LapsOk.nil 9 pk un body (fun _ _ => rfl) (fun _ _ => rfl) (fun _ _ => rfl) (fun _ _ => rfl) (fun _ => rfl) fun _ _ _ _ => (by kernel_rfl)
end L7
def A : Dom := ⟨[], .bool⟩
def sel : List Nat := [0, 1, 2, 3, 4, 5, 6, 7, 8, 9]
def t (Kind : Int) (Name : List UInt8) (Value : List UInt8) (N : Int) (M : Int) (va : UInt8) (b : UInt8) (what : UInt8) (s : List UInt8) (v : Int) : Tr (Bool) :=
 .call (law25_known.f) fun y1 =>
 .br (!y1) (.ret false)
 (.call (help_Rule.f Name Value) fun y2 =>
  .br (!y2) (.ret true)
  (.br (decide ((↑s.length : Int) > (100 : Int))) (.ret true)
  (.call (seat_Rule.f (Int.ofNat va.toNat) (Int.ofNat b.toNat)) fun (y3a, y3b, y3c, y3d, y3e) =>
   .call (law25_bent.f y3a y3b y3c y3d y3e (Int.ofNat what.toNat) s v) fun (y4a, y4b, y4c, y4d, y4e) =>
   .chk ((↑([(47 : UInt8)].length + s.length) : Int) ≤ (9223372036854775807 : Int)) <| .call (law25_bent.f y3a y3b y3c y3d y3e (Int.ofNat what.toNat) ([(47 : UInt8)] ++ s) (IntKind.i64.wrap (↑(BitVec.ofInt IntKind.i64.bits v &&& BitVec.ofInt IntKind.i64.bits (1023 : Int)).toNat : Int))) fun (y5a, y5b, y5c, y5d, y5e) =>
   .call (law25_bent.f y3a y3b y3c y3d y3e (Int.ofNat what.toNat) [(72 : UInt8), (111 : UInt8), (115 : UInt8), (116 : UInt8)] (302 : Int)) fun (y6a, y6b, y6c, y6d, y6e) =>
   .both (law25_RuleTells.L7.f [(Kind, Name, Value, N, M), (y3a, y3b, y3c, y3d, y3e), (y4a, y4b, y4c, y4d, y4e), (y5a, y5b, y5c, y5d, y5e), (y6a, y6b, y6c, y6d, y6e)] (5 : Int) (0 : Int)) (fun _ => .call (rule_Right.f y3a y3b y3c y3d y3e) fun y8 =>
   .ret y8)
   (fun y9 => .ret y9))))
def f (Kind : Int) (Name : List UInt8) (Value : List UInt8) (N : Int) (M : Int) (va : UInt8) (b : UInt8) (what : UInt8) (s : List UInt8) (v : Int) : Option (Bool) := (t Kind Name Value N M va b what s v).val
def F (x : D.den) : Option (Bool) := f x.2.1.1 x.2.1.2.1 x.2.1.2.2.1 x.2.1.2.2.2.1 x.2.1.2.2.2.2 x.2.2.1 x.2.2.2.1 x.2.2.2.2.1 x.2.2.2.2.2.1 x.2.2.2.2.2.2
def pa : D.den → (Bool) → A.den := fun (_, ((_, (_, (_, (_, _)))), (_, (_, (_, (_, _)))))) y1 => ((), y1)
def con : Con := tcon D A pa F
theorem ok : ConOk Tryz.prog 3 con := tcon_ok Base.mixed Base.prog_ok bk_law25_bent_ok (by kernel_rfl) (.cons L7.ok (by kernel_rfl) (.nil)) 9 (fun _ => rfl) (fun x => t x.2.1.1 x.2.1.2.1 x.2.1.2.2.1 x.2.1.2.2.2.1 x.2.1.2.2.2.2 x.2.2.1 x.2.2.2.1 x.2.2.2.2.1 x.2.2.2.2.2.1 x.2.2.2.2.2.2) (fun _ => rfl) fun _ _ _ => (by kernel_rfl)
theorem law_ok (h : ∀ x, (lawCon [(.pair (.int .i64) (.pair .str (.pair .str (.pair (.int .i64) (.int .i64))))), .byte, .byte, .byte, .str, (.int .i64)]).pre x → F x = some true) : ConOk Tryz.prog 3 (lawCon [(.pair (.int .i64) (.pair .str (.pair .str (.pair (.int .i64) (.int .i64))))), .byte, .byte, .byte, .str, (.int .i64)]) := Go.Vx.law_ok ok h
end law25_RuleTells
end Go.Vx
end
section
set_option linter.unusedVariables false
set_option linter.unusedSimpArgs false
set_option maxRecDepth 100000
namespace Go.Vx
namespace Pl
open Go Go.Proofs
theorem known_f : law25_known.f = some true := by decide +kernel
theorem tm_byte (a : UInt8) (m : Nat) : (Int.ofNat a.toNat).tmod (m : Int) = ((a.toNat % m : Nat) : Int) := rfl
theorem wr_byte (c : UInt8) : IntKind.i64.wrap (Int.ofNat c.toNat) = Int.ofNat c.toNat := by
 have := UInt8.toNat_lt c
 exact w64 (by simp) (by simp; omega)
theorem small_byte {n : Nat} (h : n < 256) : (UInt8.ofNat n).toNat = n := by
 show n % 256 = n
 omega
theorem seat_mod (a b a' b' : UInt8) (ha : a.toNat % 20 = a'.toNat % 20) (hb : b.toNat % 4 = b'.toNat % 4) : seat_Rule.f (Int.ofNat a.toNat) (Int.ofNat b.toNat) = seat_Rule.f (Int.ofNat a'.toNat) (Int.ofNat b'.toNat) := by
 have e : ∀ c : UInt8, (IntKind.i64.wrap (Int.ofNat c.toNat)).tmod (20 : Int) = ((c.toNat % 20 : Nat) : Int) := fun c => by
  rw [wr_byte]; exact tm_byte c 20
 have e4 : ∀ c : UInt8, (Int.ofNat c.toNat).tmod (4 : Int) = ((c.toNat % 4 : Nat) : Int) := fun c => tm_byte c 4
 unfold seat_Rule.f seat_Rule.t
 rw [e a, e a', e4 b, e4 b', ha, hb]
def seatGood (o : Option (Int × List UInt8 × List UInt8 × Int × Int)) : Bool := match o with
 | some (K, n, v, N, M) => rule_Right.f K n v N M == some true
 | none => false
theorem seat_all : ∀ (i : Fin 20) (j : Fin 4), seatGood (seat_Rule.f (Int.ofNat i.val) (Int.ofNat j.val)) = true := by decide +kernel
theorem seat_is (a b : UInt8) : ∃ K n v N M, seat_Rule.f (Int.ofNat a.toNat) (Int.ofNat b.toNat) = some (K, n, v, N, M) ∧ RightS K n v N M = true := by
 have h2 : a.toNat % 20 < 20 := by omega
 have h3 : b.toNat % 4 < 4 := by omega
 rw [seat_mod a b (UInt8.ofNat (a.toNat % 20)) (UInt8.ofNat (b.toNat % 4)) (by rw [small_byte (by omega)]; omega) (by rw [small_byte (by omega)]; omega), small_byte (by omega), small_byte (by omega)]
 have h := seat_all ⟨_, h2⟩ ⟨_, h3⟩
 unfold seatGood at h
 split at h
 ·rename_i K n v N M e
  refine ⟨K, n, v, N, M, e, ?_⟩
  rw [right_f] at h
  simpa using h
 ·cases h
theorem scan_none {α ρ : Type} {fin : ρ} : ∀ (l : List α) (k : Nat), scan (fun (_ : Nat) (_ : α) => (none : Option ρ)) fin k l = fin
 | [], _ => rfl
 | _ :: l, k => scan_none l (k + 1)
theorem line_len {K : Int} {name value : List UInt8} {N M : Int} (h : RightS K name value N M = true) : (joinC 32 (lineW K name value N M)).length < 1073741824 := by
 obtain ⟨h1, h2, _⟩ := right_facts h
 obtain ⟨n0, n1, m0, m1⟩ := right_nums h
 obtain ⟨j, hj, hK⟩ := right_kind h
 have hi2 : (K - 1).toNat = j := by omega
 obtain ⟨n, rfl⟩ := Int.eq_ofNat_of_zero_le n0
 obtain ⟨m, rfl⟩ := Int.eq_ofNat_of_zero_le m0
 have hk := kn_len hj
 have ln := itoa_len (n := n) (by omega)
 have lm := itoa_len (n := m) (by omega)
 unfold lineW lpieces
 rw [hi2]
 generalize bitS (hasV K) 0 = a
 generalize bitS (hasV K) 1 = b
 generalize bitS (hasV K) 2 = c
 generalize bitS (hasV K) 3 = d
 generalize kindNames.getD j [] = nm at hk ⊢
 generalize Lib.itoa (n : Int) = sn at ln ⊢
 generalize Lib.itoa (m : Int) = sm at lm ⊢
 cases a <;> cases b <;> cases c <;> cases d <;> (simp only [joinC, if_true, Bool.false_eq_true, if_false, List.nil_append, List.cons_append, List.length_append, List.length_cons]; omega)
theorem tells_loop {l : List (Int × List UInt8 × List UInt8 × Int × Int)} (h5 : l.length = 5) : law25_RuleTells.L7.f l 5 0 = some (.inl ()) := by
 unfold law25_RuleTells.L7.f
 refine (Loop_scan l (fun _ _ => none) (Sum.inl () : Unit ⊕ Bool) (fun k c hk hc => ?_) ?_ (by omega)).trans (congrArg some (scan_none l 0))
 ·have hw := wS (k := k) (by omega)
  have d : decide ((k : Int) < 5) = true := by simp; omega
  unfold law25_RuleTells.L7.t
  rw [d, vtrue, Tr.val_chk (by omega), Nat.zero_add, Int.toNat_natCast, getD_nat hk hc, Tr.val_chk hk, hw, h5]
  obtain ⟨K, n, v, N, M⟩ := c
  rw [line_p, line_r, right_f, rright_f]
  dsimp only
  unfold LineS
  by_cases h : RightS K n v N M = true
  ·rw [if_pos h, h, Tr.val_call rfl]
   dsimp only
   rw [Tr.val_call rfl]
   dsimp only
   rw [Tr.val_call rfl, Tr.val_call rfl]
   simp only [beq_self_eq_true, Bool.not_true, vfalse, vtrue]
   rw [parse_p (line_len h), show ParseS 1048576 (joinC 32 (lineW K n v N M)) = (K, n, v, N, M, true) from parse_line (most := 1048576) (by decide) h, Tr.val_call rfl]
   simp only [beq_self_eq_true, Bool.and_self, Bool.not_true]
   rfl
  ·have h' : RightS K n v N M = false := by simpa using h
   rw [if_neg h, h']
   rfl
 ·rw [h5]; rfl
theorem bent_f (K : Int) (n v : List UInt8) (N M : Int) (what : UInt8) (s : List UInt8) (w : Int) : ∃ r, law25_bent.f K n v N M (Int.ofNat what.toNat) s w = some r := by
 unfold law25_bent.f law25_bent.t
 cases ((Int.ofNat what.toNat).tmod (5 : Int) == (0 : Int))
 ·rw [vfalse]
  cases ((Int.ofNat what.toNat).tmod (5 : Int) == (1 : Int))
  ·rw [vfalse]
   cases ((Int.ofNat what.toNat).tmod (5 : Int) == (2 : Int))
   ·rw [vfalse]
    cases ((Int.ofNat what.toNat).tmod (5 : Int) == (3 : Int))
    ·exact ⟨_, rfl⟩
    ·exact ⟨_, rfl⟩
   ·exact ⟨_, rfl⟩
  ·exact ⟨_, rfl⟩
 ·exact ⟨_, rfl⟩
set_option maxHeartbeats 4000000 in
theorem tells_ok (K0 : Int) (n0 v0 : List UInt8) (N0 M0 : Int) (va b what : UInt8) (s : List UInt8) (v : Int) : law25_RuleTells.f K0 n0 v0 N0 M0 va b what s v = some true := by
 unfold law25_RuleTells.f law25_RuleTells.t
 rw [known_f, Tr.val_call rfl, Bool.not_true, vfalse]
 have hh : ∃ g, help_Rule.f n0 v0 = some g := ⟨_, rfl⟩
 obtain ⟨g, hg⟩ := hh
 rw [hg, Tr.val_call rfl]
 cases g
 ·rfl
 rw [Bool.not_true, vfalse]
 by_cases hs : s.length > 100
 ·rw [decide_eq_true (by omega)]; rfl
 rw [decide_eq_false (by omega), vfalse]
 obtain ⟨K, n, w, N, M, e, hR⟩ := seat_is va b
 rw [e, Tr.val_call rfl]
 dsimp only
 obtain ⟨⟨a1, a2, a3, a4, a5⟩, ea⟩ := bent_f K n w N M what s v
 rw [ea, Tr.val_call rfl]
 dsimp only
 rw [Tr.val_chk (by simp; omega)]
 obtain ⟨⟨b1, b2, b3, b4, b5⟩, eb⟩ := bent_f K n w N M what ([(47 : UInt8)] ++ s) (IntKind.i64.wrap (↑(BitVec.ofInt IntKind.i64.bits v &&& BitVec.ofInt IntKind.i64.bits (1023 : Int)).toNat : Int))
 rw [eb, Tr.val_call rfl]
 dsimp only
 obtain ⟨⟨c1, c2, c3, c4, c5⟩, ec⟩ := bent_f K n w N M what [(72 : UInt8), (111 : UInt8), (115 : UInt8), (116 : UInt8)] (302 : Int)
 rw [ec, Tr.val_call rfl]
 dsimp only
 rw [tells_loop rfl]
 show (Tr.call (rule_Right.f K n w N M) fun y8 => .ret y8).val = _
 rw [right_f, hR]; rfl
end Pl
end Go.Vx
end
