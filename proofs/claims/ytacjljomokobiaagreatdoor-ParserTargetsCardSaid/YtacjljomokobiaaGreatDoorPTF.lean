/- Printed by a program of ours out of our texts: the evaluator, the printed functions, the plain laws. (A help: no statement of the seat is proved here.) -/
import Derived.Test.YtacjljomokobiaaGreatDoorPTE
section
set_option linter.unusedVariables false
set_option linter.unusedSimpArgs false
set_option maxRecDepth 100000
namespace Go.Vx
namespace Pl
open Go Go.Proofs
theorem step_err {C : Cfg} {S : PS} (h : S.err ≠ 0) (c : UInt8) (b : Bool) : S.step C c b = S := by
 unfold PS.step PS.stepG
 rw [if_pos h]
theorem feed_err {C : Cfg} {S : PS} (h : S.err ≠ 0) (l : Bs) : S.feed C l = S := by
 induction l with
 | nil => rfl
 | cons c l ih => rw [feed_cons, step_err h, ih]
def PS.line (S : PS) : Bs := if S.over = true then [] else S.b
def PS.inc (S : PS) : Nat := if S.stage = 3 ∨ S.stage = 5 then 0 else 1
def PS.headed (S : PS) : PS := { S with begun := true, waits := false, head := S.head + (S.inc : Int) }
structure Ready (C : Cfg) (S : PS) : Prop where
 err : S.err = 0
 stage : ¬ (S.stage = 2 ∨ S.stage = 4)
 bad : S.bad = false
 pend : S.pend = false
def PS.hasRoom (C : Cfg) (S : PS) (n : Nat) : Prop := S.inc = 0 ∨ S.head + (n : Int) ≤ C.head
theorem step_ready {C : Cfg} {S : PS} (he : S.err = 0) (hs : ¬ (S.stage = 2 ∨ S.stage = 4)) (hh : S.hasRoom C 1) (c : UInt8) : S.step C c true = S.headed.tailG (PS.step1 C) C c (S.headed.lineB C c) := by
 unfold PS.step PS.stepG
 rw [if_neg (by simp [he]), if_neg hs, if_pos rfl]
 have : S.mark.counted C = (S.headed, true) := by
  unfold PS.counted PS.headed PS.inc
  by_cases h : S.stage = 3 ∨ S.stage = 5
  ·have h' : S.mark.stage = 3 ∨ S.mark.stage = 5 := h
   rw [if_pos h', if_pos h]
   simp [PS.mark]
  ·have h' : ¬ (S.mark.stage = 3 ∨ S.mark.stage = 5) := h
   rw [if_neg h', if_neg h]
   have h2 : ¬ (S.mark.head + 1 > C.head) := by
    rcases hh with h3 | h3
    ·unfold PS.inc at h3; rw [if_neg h] at h3; cases h3
    ·show ¬ (S.head + 1 > C.head); omega
   rw [if_neg h2]
   have h4 : (S.mark.err == 0) = true := by show (S.err == 0) = true; simp [he]
   rw [h4]
   simp [PS.mark]
 rw [this, if_neg (by simp)]
def PS.add (S : PS) (l : Bs) : PS := { S with begun := true, waits := false, head := S.head + ((S.inc * l.length : Nat) : Int), over := false, b := S.line ++ l }
theorem step_plain {C : Cfg} {S : PS} (h : Ready C S) (hh : S.hasRoom C 1) {c : UInt8} (h13 : c ≠ 13) (h10 : c ≠ 10) (hm : (S.line.length : Int) < S.most) : S.step C c true = S.add [c] := by
 rw [step_ready h.err h.stage hh]
 have hb : S.headed.bad = false := h.bad
 have hp : S.headed.pend = false := h.pend
 have : S.headed.lineB C c = (S.add [c], 0) := by
  unfold PS.lineB
  rw [if_neg (by simp [hb]), if_neg (by simp [hp]), if_neg h13, if_neg h10]
  have hm' : ¬ (((if S.headed.over = true then ([] : Bs) else S.headed.b).length : Int) ≥ S.headed.most) := by
   show ¬ ((S.line.length : Int) ≥ S.most)
   omega
  rw [if_neg hm']
  simp [PS.headed, PS.add, PS.line]
  rfl
 rw [this]
 unfold PS.tailG
 rw [if_neg (by simp), if_neg (by simp), if_neg (by simp), if_neg (by simp)]
def plain (l : Bs) : Prop := ∀ c ∈ l, c ≠ 13 ∧ c ≠ 10
instance (l : Bs) : Decidable (plain l) := inferInstanceAs (Decidable (∀ c ∈ l, c ≠ 13 ∧ c ≠ 10))
theorem add_line (S : PS) (l : Bs) : (S.add l).line = S.line ++ l := rfl
theorem add_ready {C : Cfg} {S : PS} (h : Ready C S) (l : Bs) : Ready C (S.add l) := ⟨h.err, h.stage, h.bad, h.pend⟩
theorem add_add (S : PS) (l m : Bs) : (S.add l).add m = S.add (l ++ m) := by
 unfold PS.add PS.inc PS.line
 simp only [List.append_assoc, List.length_append, Nat.mul_add, Int.natCast_add, Bool.false_eq_true, if_false, Int.add_assoc]
theorem inc_le (S : PS) : S.inc ≤ 1 := by unfold PS.inc; split <;> omega
theorem room_one {C : Cfg} {S : PS} {n : Nat} (h : S.hasRoom C (n + 1)) : S.hasRoom C 1 := by
 rcases h with h | h
 ·exact .inl h
 ·exact .inr (by omega)
theorem room_le {C : Cfg} {S : PS} {n m : Nat} (h : S.hasRoom C n) (hm : m ≤ n) : S.hasRoom C m := by
 rcases h with h | h
 ·exact .inl h
 ·exact .inr (by omega)
theorem room_add {C : Cfg} {S : PS} {l : Bs} {n : Nat} (h : S.hasRoom C (l.length + n)) : (S.add l).hasRoom C n := by
 rcases h with h | h
 ·exact .inl h
 ·refine .inr ?_
  have h1 := inc_le S
  have h2 : S.inc * l.length ≤ l.length := by
   have := Nat.mul_le_mul_right l.length h1
   omega
  show S.head + ((S.inc * l.length : Nat) : Int) + (n : Int) ≤ C.head
  omega
theorem feed_plain {C : Cfg} : ∀ (l : Bs) {S : PS} (c : UInt8), Ready C S → plain (c :: l) → S.hasRoom C (l.length + 1) → ((S.line.length + (l.length + 1) : Nat) : Int) ≤ S.most → S.feed C (c :: l) = S.add (c :: l)
 | [], S, c, h, hp, hh, hm => by
  have h0 := hp c (List.mem_cons_self ..)
  rw [feed_cons, step_plain h (room_one hh) h0.1 h0.2 (by simp only [List.length_nil] at hm; omega)]
  rfl
 | d :: l, S, c, h, hp, hh, hm => by
  have h0 := hp c (List.mem_cons_self ..)
  simp only [List.length_cons] at hh hm
  rw [feed_cons, step_plain h (room_one hh) h0.1 h0.2 (by omega), feed_plain l d (add_ready h _) (fun x hx => hp x (List.mem_cons_of_mem _ hx)) (room_add (by simpa [Nat.add_comm] using hh)) (by rw [add_line]; show _ ≤ S.most; simp only [List.length_append, List.length_singleton]; omega), add_add]
  rfl
def PS.end_ (S : PS) : PS := { S with begun := true, waits := false, head := S.head + ((S.inc * 2 : Nat) : Int), pend := false, over := true, b := S.line }
theorem feed_crlf {C : Cfg} {S : PS} (h : Ready C S) (hh : S.hasRoom C 2) : S.feed C [13, 10] = S.end_.ended C := by
 rw [feed_cons, step_ready h.err h.stage (room_one hh)]
 have hb : S.headed.bad = false := h.bad
 have hp : S.headed.pend = false := h.pend
 have h1 : S.headed.lineB C 13 = ({ S.headed with pend := true, over := false, b := S.line }, 0) := by
  unfold PS.lineB
  rw [if_neg (by simp [hb]), if_neg (by simp [hp]), if_pos rfl]
  rfl
 rw [h1]
 have h2 : S.headed.tailG (PS.step1 C) C 13 ({ S.headed with pend := true, over := false, b := S.line }, 0) = { S.headed with pend := true, over := false, b := S.line } := by
  unfold PS.tailG
  rw [if_neg (by simp), if_neg (by simp), if_neg (by simp), if_neg (by simp)]
 rw [h2, feed_cons, feed_nil, step_ready (S := { S.headed with pend := true, over := false, b := S.line }) h.err h.stage (by
  rcases hh with h3 | h3
  ·exact .inl h3
  ·refine .inr ?_
   have := inc_le S
   show S.head + (S.inc : Int) + 1 ≤ C.head
   omega)]
 have h3 : (PS.headed { S.headed with pend := true, over := false, b := S.line }).lineB C 10 = (S.end_, 1) := by
  unfold PS.lineB
  rw [if_neg (by simpa [PS.headed] using h.bad), if_pos rfl, if_pos rfl]
  have e : S.head + (S.inc : Int) + (S.inc : Int) = S.head + ((S.inc * 2 : Nat) : Int) := by omega
  show (({ S.headed with begun := true, waits := false, head := S.head + (S.inc : Int) + (S.inc : Int), over := true, pend := false, b := S.line } : PS), (1 : Int)) = _
  rw [e]
  rfl
 rw [h3]
 unfold PS.tailG
 rw [if_pos rfl]
theorem add_nil_end (S : PS) : (S.add []).end_ = S.end_ := by
 unfold PS.add PS.end_ PS.line PS.inc
 simp
theorem feed_line {C : Cfg} {S : PS} (l : Bs) (h : Ready C S) (hp : plain l) (hh : S.hasRoom C (l.length + 2)) (hm : ((S.line.length + l.length : Nat) : Int) ≤ S.most) : S.feed C (l ++ [13, 10]) = (S.add l).end_.ended C := by
 cases l with
 | nil => rw [List.nil_append, add_nil_end, feed_crlf h (by simpa using hh)]
 | cons c l =>
  rw [feed_append, feed_plain l c h hp (room_le hh (by simp)) (by simpa using hm), feed_crlf (add_ready h _) (room_add hh)]
def PS.errLong (S : PS) : Int := if S.stage = 0 then 414 else if S.stage = 1 then 431 else if S.stage = 6 then 431 else 400
theorem errLong_ne (S : PS) : S.errLong ≠ 0 := by 
 unfold PS.errLong
 split
 ·decide
 ·split
  ·decide
  ·split <;> decide
theorem feed_long {C : Cfg} (r : Bs) : ∀ (l : Bs) {S : PS}, Ready C S → plain l → S.stage ≠ 5 → S.hasRoom C l.length → S.most < ((S.line.length + l.length : Nat) : Int) → (S.line.length : Int) ≤ S.most → (S.feed C (l ++ r)).err = S.errLong
 | [], S, h, hp, h5, hh, hm, hz => by simp at hm; omega
 | c :: l, S, h, hp, h5, hh, hm, hz => by
  have h0 := hp c (List.mem_cons_self ..)
  rw [List.cons_append, feed_cons]
  simp only [List.length_cons] at hh hm
  by_cases hf : (S.line.length : Int) < S.most
  ·rw [step_plain h (room_one hh) h0.1 h0.2 hf, feed_long r l (add_ready h _) (fun x hx => hp x (List.mem_cons_of_mem _ hx)) h5 (room_add (by simpa [Nat.add_comm] using hh)) (by rw [add_line]; show S.most < _; simp only [List.length_append, List.length_singleton]; omega) (by rw [add_line]; show _ ≤ S.most; simp only [List.length_append, List.length_singleton]; omega)]
   rfl
  ·rw [step_ready h.err h.stage (room_one hh)]
   have hb : S.headed.bad = false := h.bad
   have hpd : S.headed.pend = false := h.pend
   have : S.headed.lineB C c = ({ S.headed with bad := true, pend := false, over := false, b := S.line }, 4) := by
    unfold PS.lineB
    rw [if_neg (by simp [hb]), if_neg (by simp [hpd]), if_neg h0.1, if_neg h0.2]
    have hm' : ((if S.headed.over = true then ([] : Bs) else S.headed.b).length : Int) ≥ S.headed.most := by
     show (S.line.length : Int) ≥ S.most
     omega
    rw [if_pos hm']
    rfl
   have ht : ((S.headed.tailG (PS.step1 C) C c (S.headed.lineB C c))).err = S.errLong := by
    rw [this]
    unfold PS.tailG
    rw [if_neg (by simp), if_neg (by simp), if_pos rfl]
    unfold PS.longG PS.errLong
    show (if S.stage = 0 then PS.fail _ 414 else if S.stage = 1 then PS.fail _ 431 else if S.stage = 6 then PS.fail _ 431 else if S.stage = 5 then _ else PS.fail _ 400 : PS).err = _
    rw [if_neg h5]
    split
    ·rfl
    ·split
     ·rfl
     ·split <;> rfl
   have hne := errLong_ne S
   rw [feed_err (by rw [ht]; exact hne), ht]
end Pl
end Go.Vx
end
section
set_option linter.unusedVariables false
set_option linter.unusedSimpArgs false
set_option maxRecDepth 100000
namespace Go.Vx
namespace Pl
open Go Go.Proofs
theorem known_f : law13_known.f = some true := by
 unfold law13_known.f law13_known.t
 have hG0 := new_good (usual_ok 0)
 refine go_call rfl ?_
 dsimp only
 refine go_call (new_f (usual 0)) ?_
 rw [show PS.new' (usual 0) = PS.new (usual 0) from if_pos (by decide)]
 dsimp only [PS.tupN]
 refine go_chk (by decide) ?_
 repeat rw [vokl]
 refine go_chk (by decide) ?_
 refine go_call (feed_f (C := usual 0) (S := PS.new (usual 0)) (usual_ok 0) usual_lines (by decide) (n := 0) (by decide) hG0) ?_
 dsimp only [PS.tupF]
 repeat rw [vokl]
 refine go_call (err_f _ _ _ _ _) ?_
 repeat rw [vokl]
 refine go_call (clean_f (((PS.new (usual 0)).taken.feed (usual 0) _)) _ _ _ _ _) ?_
 refine go_call (new_f (usual 0)) ?_
 rw [show PS.new' (usual 0) = PS.new (usual 0) from if_pos (by decide)]
 dsimp only [PS.tupN]
 refine go_chk (by decide) ?_
 repeat rw [vokl]
 refine go_chk (by decide) ?_
 refine go_call (feed_f (C := usual 0) (S := PS.new (usual 0)) (usual_ok 0) usual_lines (by decide) (n := 0) (by decide) hG0) ?_
 dsimp only [PS.tupF]
 repeat rw [vokl]
 refine go_call (err_f _ _ _ _ _) ?_
 repeat rw [vokl]
 refine go_call (clean_f (((PS.new (usual 0)).taken.feed (usual 0) _)) _ _ _ _ _) ?_
 refine go_call (new_f (usual 0)) ?_
 rw [show PS.new' (usual 0) = PS.new (usual 0) from if_pos (by decide)]
 dsimp only [PS.tupN]
 refine go_chk (by decide) ?_
 refine go_chk (by decide) ?_
 repeat rw [vokl]
 refine go_chk (by decide) ?_
 refine go_call (feed_f (C := usual 0) (S := PS.new (usual 0)) (usual_ok 0) usual_lines (by decide) (n := 0) (by decide) hG0) ?_
 dsimp only [PS.tupF]
 repeat rw [vokl]
 refine go_call (waits_f (((PS.new (usual 0)).taken.feed (usual 0) _)) _ _ _ _ _) ?_
 repeat rw [vokl]
 have hG1 : Good (usual 0) (0 + 4 * (List.flatten known3).length) ((PS.new (usual 0)).taken.feed (usual 0) (List.flatten known3)) := feed_good (usual_ok 0) _ 0 _ (by decide) hG0.taken
 refine go_call (held_f (C := usual 0) (S := ((PS.new (usual 0)).taken.feed (usual 0) (List.flatten known3))) (hG1.1.small (usual_ok 0) (by decide)) (by decide +kernel) _) ?_
 refine go_chk (by decide) ?_
 repeat rw [vokl]
 refine go_chk (by decide) ?_
 refine go_call (feed_f (C := usual 0) (S := ((PS.new (usual 0)).taken.feed (usual 0) (List.flatten known3))) (usual_ok 0) usual_lines (by decide) (n := 0 + 4 * (List.flatten known3).length) (by decide) hG1) ?_
 dsimp only [PS.tupF]
 repeat rw [vokl]
 decide +kernel
def getS : Bs := [71, 69, 84, 32, 47]
def verS : Bs := [32, 72, 84, 84, 80, 47, 49, 46, 49]
theorem L7_f (n : UInt8) : law13_ParserTargets.L7.f (Int.ofNat n.toNat) [71, 69, 84, 32, 47] 0 = some (getS ++ List.replicate (n.toNat % 100) 97) := by
 have hn := mod_i n 100 (by decide) (by decide)
 have hl : n.toNat % 100 < 100 := Nat.mod_lt _ (by decide)
 unfold law13_ParserTargets.L7.f
 refine Loop_count (n.toNat % 100) (fun k => (getS ++ List.replicate k 97, (k : Int))) _ (fun k hk => ?_) ?_ (by omega) rfl
 ·have hw := wS (k := k) (by omega)
  unfold law13_ParserTargets.L7.t
  dsimp only
  rw [show IntKind.i64.wrap ((Int.ofNat n.toNat).tmod (100 : Int)) = _ from hn]
  refine go_t (by rw [decide_eq_true_iff]; omega) ?_
  refine go_chk (by simp [getS]; omega) ?_
  rw [hw]
  show some _ = some _
  rw [List.append_assoc, ← List.replicate_succ']
 ·unfold law13_ParserTargets.L7.t
  dsimp only
  rw [show IntKind.i64.wrap ((Int.ofNat n.toNat).tmod (100 : Int)) = _ from hn]
  refine go_f (by rw [decide_eq_false_iff_not]; omega) rfl
theorem first_run : ∀ m, m < 100 → requestS (getS ++ List.replicate m 97 ++ verS) 0 true = ([71, 69, 84], 47 :: List.replicate m 97, 1, 0) := by decide +kernel
theorem first_plain : ∀ m, m < 100 → plain (getS ++ List.replicate m 97 ++ verS) := by decide +kernel
def cfgT (J : Nat) : Cfg := ⟨0, 64 + J, 32, 8192, 65536, 32, 8, 4, 20, true, true⟩
def firstS (M : Nat) : Bs := getS ++ List.replicate M 97 ++ verS
theorem firstS_len (M : Nat) : (firstS M).length = 14 + M := by simp [firstS, getS, verS]; omega
theorem right_T {J : Nat} (hJ : J < 20) : (cfgT J).right := ⟨by show decide _ = true; rw [decide_eq_true_iff]; dsimp only [cfgT]; omega, by show (0 : Int).fdiv (2 ^ 30) = 0; decide⟩
theorem new_T {J : Nat} (hJ : J < 20) : Ready (cfgT J) (PS.new (cfgT J)).taken ∧ (PS.new (cfgT J)).taken.most = 64 + (J : Int) := by
 refine ⟨⟨rfl, (by decide : ¬ ((0 : Int) = 2 ∨ (0 : Int) = 4)), rfl, rfl⟩, ?_⟩
 show lineMost (cfgT J).line = _
 rw [(right_T hJ).ok.most]
 rfl
theorem targets_long {J M : Nat} (hJ : J < 20) (hM : M < 100) (h : 64 + J < 14 + M) : ((PS.new (cfgT J)).taken.feed (cfgT J) (firstS M ++ [13, 10])).err = 414 := by
 have hlen := firstS_len M
 obtain ⟨h1, h2⟩ := new_T hJ
 exact feed_long [13, 10] (firstS M) h1 (first_plain M hM) (by show (0 : Int) ≠ 5; decide) (.inr (by rw [hlen]; show (0 : Int) + _ ≤ 8192; omega)) (by rw [h2, hlen]; show _ < (((0 : Nat) + (14 + M) : Nat) : Int); omega) (by rw [h2]; show (((0 : Nat)) : Int) ≤ _; omega)
theorem targets_short {J M : Nat} (hJ : J < 20) (hM : M < 100) (h : ¬ 64 + J < 14 + M) : (PS.new (cfgT J)).taken.feed (cfgT J) (firstS M ++ [13, 10]) = { ((PS.new (cfgT J)).taken.add (firstS M)).end_ with method := [71, 69, 84], target := 47 :: List.replicate M 97, minor := 1, err := 0, stage := 1 } := by
 have hlen := firstS_len M
 obtain ⟨h1, h2⟩ := new_T hJ
 rw [feed_line (firstS M) h1 (first_plain M hM) (.inr (by rw [hlen]; show (0 : Int) + _ ≤ 8192; omega)) (by rw [h2, hlen]; show (((0 : Nat) + (14 + M) : Nat) : Int) ≤ _; omega)]
 have hl : ((PS.new (cfgT J)).taken.add (firstS M)).end_.lineS = firstS M := rfl
 have hne : firstS M ≠ [] := by intro e; rw [e] at hlen; simp at hlen; omega
 unfold PS.ended
 rw [if_pos (show ((PS.new (cfgT J)).taken.add (firstS M)).end_.stage = 0 from rfl), hl]
 unfold PS.request
 rw [if_neg (fun h => hne h.1), show requestS (firstS M) (cfgT J).p (cfgT J).old = _ from first_run M hM]
 rfl
theorem targets_ok (n k : UInt8) : law13_ParserTargets.f n k = some true := by
 have hk := mod_i k 20 (by decide) (by decide)
 have hn := mod_i n 100 (by decide) (by decide)
 have hL := L7_f n
 have hJ : k.toNat % 20 < 20 := Nat.mod_lt _ (by decide)
 have hM : n.toNat % 100 < 100 := Nat.mod_lt _ (by decide)
 unfold law13_ParserTargets.f law13_ParserTargets.t
 rw [show IntKind.i64.wrap ((Int.ofNat k.toNat).tmod (20 : Int)) = _ from hk, show IntKind.i64.wrap ((Int.ofNat n.toNat).tmod (100 : Int)) = _ from hn]
 generalize k.toNat % 20 = J at hk hJ ⊢
 generalize n.toNat % 100 = M at hn hL hM ⊢
 rw [w64 (n := 64 + (J : Int)) (by omega) (by omega), w64 (n := 4 + (M : Int)) (by omega) (by omega)]
 refine go_call known_f ?_
 refine go_f rfl ?_
 refine go_call rfl ?_
 dsimp only
 refine go_call hL ?_
 have hlen := firstS_len M
 have hlg : (getS ++ List.replicate M 97).length = 5 + M := by simp [getS]; omega
 have hR := right_T hJ
 have hC := hR.ok
 have hLn : LinesOk (cfgT J) := linesOk_plain (by show hasD 0 3 = false; decide +kernel)
 refine go_chk (by rw [hlg]; simp; omega) ?_
 refine go_call (new_f (cfgT J)) ?_
 rw [show PS.new' (cfgT J) = PS.new (cfgT J) from if_pos hR]
 have hG0 := new_good hC
 dsimp only [PS.tupN]
 rw [show getS ++ List.replicate M 97 ++ [32, 72, 84, 84, 80, 47, 49, 46, 49] = firstS M from rfl]
 have hl2 : (firstS M ++ [13, 10]).length = 16 + M := by rw [List.length_append, hlen]; simp; omega
 refine go_chk (by rw [hlen]; simp; omega) ?_
 refine go_chk (by rw [hl2]; omega) ?_
 refine go_chk (by rw [List.nil_append]; omega) ?_
 repeat rw [vokl]
 refine go_chk (by simp) ?_
 have hp1 : [firstS M ++ [13, 10]].flatten = firstS M ++ [13, 10] := by simp
 rw [List.nil_append, take_all]
 refine go_call (feed_f (C := cfgT J) (S := PS.new (cfgT J)) (parts := [firstS M ++ [13, 10]]) hC hLn (by simp) (n := 0) (by rw [hp1, hl2]; omega) hG0) ?_
 rw [hp1]
 have hlong := targets_long hJ hM
 have hshort := targets_short hJ hM
 generalize hS : (PS.new (cfgT J)).taken.feed (cfgT J) (firstS M ++ [13, 10]) = S at hlong hshort ⊢
 have hG1 : Good (cfgT J) (0 + 4 * (firstS M ++ [13, 10]).length) S := by rw [← hS]; exact feed_good hC _ 0 _ (by rw [hl2]; omega) hG0.taken
 have hsm := hG1.1.small hC (by rw [hl2]; omega)
 dsimp only [PS.tupF]
 by_cases h : 64 + J < 14 + M
 ·have he := hlong h
  refine go_t (by rw [decide_eq_true_iff, hlen]; omega) ?_
  repeat rw [vokl]
  refine go_call (err_f _ _ _ _ _) ?_
  refine go_t (by rw [he]; rfl) ?_
  repeat rw [vokl]
  have hh : parser_Parser_Held.f S.method S.target S.err S.over S.b S.fields S.body S.trailers S.out = some 0 := by
   unfold parser_Parser_Held.f parser_Parser_Held.t
   rw [he]; rfl
  refine go_call hh ?_
  refine go_t rfl ?_
  repeat rw [vokl]
  refine go_call (clean_f S _ _ _ _ _) ?_
  show some (!S.clean) = _
  unfold PS.clean
  rw [he]; rfl
 ·have hst := hshort h
  refine go_f (by rw [decide_eq_false_iff_not, hlen]; omega) ?_
  repeat rw [vokl]
  refine go_call (err_f _ _ _ _ _) ?_
  refine go_t (by rw [hst]; rfl) ?_
  repeat rw [vokl]
  refine go_call (held_f (C := cfgT J) hsm (by rw [hst]; refine ⟨?_, ?_⟩ <;> simp; omega) _) ?_
  have hh : S.held = 4 + M := by
   rw [hst]
   unfold PS.held
   simp [PS.end_, PS.add, PS.taken, PS.new, sizeF]
   omega
  refine go_t (by rw [hh, beq_iff_eq]; omega) ?_
  repeat rw [vokl]
  refine go_call (clean_f S _ _ _ _ _) ?_
  show some (!S.clean) = _
  rw [hst]; rfl
end Pl
end Go.Vx
end
